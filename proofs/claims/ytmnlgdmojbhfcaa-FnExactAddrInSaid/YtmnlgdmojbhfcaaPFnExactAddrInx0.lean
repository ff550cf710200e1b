-- Written for this claim by a program of this session, which goes by the kit's print and takes contracts proved by hand.
import Derived.Test.YtmnlgdmojbhfcaaProg
import Derived.BigRegion
import Derived.Below
import Derived.Deep.Draws
import Derived.Deep.AppendLies
import Derived.Maps.AppendAt
import Derived.OwnWalk
import Derived.Laws.BytesArg
import Derived.Laws.MakeOwn
import Derived.Laws.OwnMore
import Derived.Deep.OwnRows
import Derived.Tactics
import Derived.Lib.ConvBytes
import Derived.Laws.Slices
import Derived.WalkKit
import Derived.KernelRfl
import Derived.RowKit3
import Derived.Deep.LoopGhost
import Derived.Deep.QuietTactic
import Derived.BigQuiet
import Derived.WideLaws
import Derived.Deep.DeepCutAuto
import Derived.Deep.CutBlock
import Derived.Deep.RegionHeld3
import Derived.Laws.Rows
import Derived.Lib.AppendStr
import Derived.ArgAppend
import Derived.Laws.IdiomCopy
import Derived.OrdersHeld
import Derived.Laws.BitsLemmas
import Derived.RowKit
import Derived.Test.YtmnlgdmojbhfcaaWWords
import Derived.Test.YtmnlgdmojbhfcaaWLast
import Derived.Test.YtmnlgdmojbhfcaaWTab
import Derived.Test.YtmnlgdmojbhfcaaWFour
import Derived.Test.YtmnlgdmojbhfcaaWQPut
import Derived.Test.YtmnlgdmojbhfcaaWApart
import Derived.Test.YtmnlgdmojbhfcaaWArr
import Derived.Test.YtmnlgdmojbhfcaaWZeros
import Derived.Test.YtmnlgdmojbhfcaaWFoot
import Derived.Test.YtmnlgdmojbhfcaaWKept
import Derived.Test.YtmnlgdmojbhfcaaWShare
import Derived.Test.YtmnlgdmojbhfcaaWN
import Derived.Test.YtmnlgdmojbhfcaaWFootNe
import Derived.Test.YtmnlgdmojbhfcaaWAt
import Derived.Test.YtmnlgdmojbhfcaaWEqStruct
import Derived.Test.YtmnlgdmojbhfcaaWRepsOne
import Derived.Test.YtmnlgdmojbhfcaaWInv
import Derived.Test.YtmnlgdmojbhfcaaWInvWords
import Derived.Test.YtmnlgdmojbhfcaaWGuard
import Derived.Test.YtmnlgdmojbhfcaaWNEv
import Derived.Test.YtmnlgdmojbhfcaaWMore
namespace Go.Proofs.Ytmnlgdmojbhfcaa.PFnExactAddrIn
open Go.RowKit Go.Proofs.YtmnlgdmojbhfcaaW.PrintWords Go.Proofs.YtmnlgdmojbhfcaaW.PrintLast Go.Proofs.YtmnlgdmojbhfcaaW.PrintMore
attribute [local go_sem] max2_int min2_int max_two min_two max_three min_three max_four min_four   -- for this text's walks alone
set_option linter.unusedVariables false
set_option linter.unusedSimpArgs false



def errW : Option Int → Value
  | none => .nilIface
  | some c => .iface 0 (.int .i64 c)
theorem errW_none : errW none = .nilIface := rfl
theorem errW_some (c : Int) : errW (some c) = .iface 0 (.int .i64 c) := rfl

theorem pw_ne_nil (l : List UInt8) : (l != ([] : List UInt8)) = !l.isEmpty := by cases l <;> rfl
theorem pw_eq_nil (l : List UInt8) : (l == ([] : List UInt8)) = l.isEmpty := by cases l <;> rfl
-- the values' own types

end Go.Proofs.Ytmnlgdmojbhfcaa.PFnExactAddrIn
