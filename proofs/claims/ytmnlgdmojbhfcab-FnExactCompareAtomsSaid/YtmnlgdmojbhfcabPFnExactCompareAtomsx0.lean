-- Written for this claim by a program of this session, which goes by the kit's print and takes contracts proved by hand.
import Derived.Test.YtmnlgdmojbhfcabProg
import Derived.WalkLawsBesides
import Derived.WalkSpells
import Derived.BigRegion
import Derived.Below
import Derived.Deep.Draws
import Derived.Deep.AppendLies
import Derived.Maps.AppendAt
import Derived.OwnWalk
import Derived.Laws.BytesArg
import Derived.Laws.MakeOwn
import Derived.Laws.OwnMore
import Derived.Deep.OwnRows
import Derived.Tactics
import Derived.Lib.ConvBytes
import Derived.Laws.Slices
import Derived.WalkKit
import Derived.KernelRfl
import Derived.RowKit3
import Derived.Deep.LoopGhost
import Derived.Deep.QuietTactic
import Derived.BigQuiet
import Derived.WideLaws
import Derived.Deep.DeepCutAuto
import Derived.Deep.CutBlock
import Derived.Deep.RegionHeld3
import Derived.Laws.Rows
import Derived.Lib.AppendStr
import Derived.ArgAppend
import Derived.Laws.IdiomCopy
import Derived.OrdersHeld
import Derived.Laws.BitsLemmas
import Derived.RowKit
import Derived.Test.YtmnlgdmojbhfcabWWords
import Derived.Test.YtmnlgdmojbhfcabWLast
import Derived.Test.YtmnlgdmojbhfcabWTab
import Derived.Test.YtmnlgdmojbhfcabWFour
import Derived.Test.YtmnlgdmojbhfcabWQPut
import Derived.Test.YtmnlgdmojbhfcabWApart
import Derived.Test.YtmnlgdmojbhfcabWArr
import Derived.Test.YtmnlgdmojbhfcabWZeros
import Derived.Test.YtmnlgdmojbhfcabWFoot
import Derived.Test.YtmnlgdmojbhfcabWKept
import Derived.Test.YtmnlgdmojbhfcabWShare
import Derived.Test.YtmnlgdmojbhfcabWN
import Derived.Test.YtmnlgdmojbhfcabWFootNe
import Derived.Test.YtmnlgdmojbhfcabWAt
import Derived.Test.YtmnlgdmojbhfcabWEqStruct
import Derived.Test.YtmnlgdmojbhfcabWRepsOne
import Derived.Test.YtmnlgdmojbhfcabWInv
import Derived.Test.YtmnlgdmojbhfcabWInvWords
import Derived.Test.YtmnlgdmojbhfcabWGuard
import Derived.Test.YtmnlgdmojbhfcabWNEv
import Derived.Test.YtmnlgdmojbhfcabWMore
namespace Go.Proofs.Ytmnlgdmojbhfcab.PFnExactCompareAtoms
open Go.RowKit Go.Proofs.YtmnlgdmojbhfcabW.PrintWords Go.Proofs.YtmnlgdmojbhfcabW.PrintLast Go.Proofs.YtmnlgdmojbhfcabW.PrintMore
attribute [local go_sem] max2_int min2_int max_two min_two max_three min_three max_four min_four   -- for this text's walks alone
set_option linter.unusedVariables false
set_option linter.unusedSimpArgs false



def errW : Option Int → Value
  | none => .nilIface
  | some c => .iface 0 (.int .i64 c)
theorem errW_none : errW none = .nilIface := rfl
theorem errW_some (c : Int) : errW (some c) = .iface 0 (.int .i64 c) := rfl

theorem pw_ne_nil (l : List UInt8) : (l != ([] : List UInt8)) = !l.isEmpty := by cases l <;> rfl
theorem pw_eq_nil (l : List UInt8) : (l == ([] : List UInt8)) = l.isEmpty := by cases l <;> rfl
theorem info3 : (Try.prog.info? 3).map (fun i => (i.zero, i.size, i.bytes)) = some (some (.int .i64 0), 1, 8) := by kernel_rfl
-- the values' own types

end Go.Proofs.Ytmnlgdmojbhfcab.PFnExactCompareAtoms
