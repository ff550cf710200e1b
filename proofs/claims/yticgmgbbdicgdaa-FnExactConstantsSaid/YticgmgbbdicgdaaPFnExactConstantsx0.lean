-- Written for this claim by a program of this session, which goes by the kit's print and takes contracts proved by hand.
import Derived.Test.YticgmgbbdicgdaaProg
import Derived.Below
import Derived.Deep.Draws
import Derived.Deep.AppendLies
import Derived.Maps.AppendAt
import Derived.OwnWalk
import Derived.Laws.BytesArg
import Derived.Laws.MakeOwn
import Derived.Laws.OwnMore
import Derived.Deep.OwnRows
import Derived.Tactics
import Derived.Lib.ConvBytes
import Derived.Laws.Slices
import Derived.WalkKit
import Derived.KernelRfl
import Derived.RowKit3
import Derived.Deep.LoopGhost
import Derived.Deep.QuietTactic
import Derived.BigQuiet
import Derived.WideLaws
import Derived.Deep.DeepCutAuto
import Derived.Deep.CutBlock
import Derived.Deep.RegionHeld3
import Derived.Laws.Rows
import Derived.Lib.AppendStr
import Derived.ArgAppend
import Derived.Laws.IdiomCopy
import Derived.OrdersHeld
import Derived.Laws.BitsLemmas
import Derived.RowKit
import Derived.Test.YticgmgbbdicgdaaWWords
import Derived.Test.YticgmgbbdicgdaaWLast
import Derived.Test.YticgmgbbdicgdaaWTab
import Derived.Test.YticgmgbbdicgdaaWFour
import Derived.Test.YticgmgbbdicgdaaWQPut
import Derived.Test.YticgmgbbdicgdaaWApart
import Derived.Test.YticgmgbbdicgdaaWArr
import Derived.Test.YticgmgbbdicgdaaWZeros
import Derived.Test.YticgmgbbdicgdaaWFoot
import Derived.Test.YticgmgbbdicgdaaWKept
import Derived.Test.YticgmgbbdicgdaaWShare
import Derived.Test.YticgmgbbdicgdaaWN
import Derived.Test.YticgmgbbdicgdaaWFootNe
import Derived.Test.YticgmgbbdicgdaaWAt
import Derived.Test.YticgmgbbdicgdaaWEqStruct
import Derived.Test.YticgmgbbdicgdaaWRepsOne
import Derived.Test.YticgmgbbdicgdaaWInv
import Derived.Test.YticgmgbbdicgdaaWInvWords
import Derived.Test.YticgmgbbdicgdaaWGuard
import Derived.Test.YticgmgbbdicgdaaWNEv
import Derived.Test.YticgmgbbdicgdaaWMore
namespace Go.Proofs.Yticgmgbbdicgdaa.PFnExactConstants
open Go.RowKit Go.Proofs.YticgmgbbdicgdaaW.PrintWords Go.Proofs.YticgmgbbdicgdaaW.PrintLast Go.Proofs.YticgmgbbdicgdaaW.PrintMore
attribute [local go_sem] max2_int min2_int max_two min_two max_three min_three max_four min_four   -- for this text's walks alone
set_option linter.unusedVariables false
set_option linter.unusedSimpArgs false



def errW : Option Int → Value
  | none => .nilIface
  | some c => .iface 0 (.int .i64 c)
theorem errW_none : errW none = .nilIface := rfl
theorem errW_some (c : Int) : errW (some c) = .iface 0 (.int .i64 c) := rfl

-- the values' own types

end Go.Proofs.Yticgmgbbdicgdaa.PFnExactConstants
