-- Written for this claim by a program of this session (mkrow.py).
import Derived.Test.YtmnlgdmojbhfcabPFnExactCompareAtomsx6
import Derived.Test.YtmnlgdmojbhfcabOpen
namespace Go.Proofs.Ytmnlgdmojbhfcab.PFnExactCompareAtoms
open Go.RowKit Go.Proofs.YtmnlgdmojbhfcabW.PrintWords Go.Proofs.YtmnlgdmojbhfcabW.PrintLast Go.Proofs.YtmnlgdmojbhfcabOpen
set_option linter.unusedVariables false
structure S50 where
  f0 : Int
  f1 : Int
  f2 : ByteArray
  f3 : ByteArray
def k50 : Kd S50 := Kd.iso (Kd.pair (Kd.int .i64) (Kd.pair (Kd.int .i64) (Kd.pair Kd.string Kd.string))) (fun x : S50 => (x.f0, x.f1, x.f2, x.f3))
def fit50 (x : S50) : Prop := ((Lit.int .i64 x.f0).wf = true) ∧ ((Lit.int .i64 x.f1).wf = true) ∧ ((x.f2).size ≤ 140737488351232) ∧ ((x.f3).size ≤ 140737488351232)
theorem opens50 : Opens Try.prog 50 k50 fit50 := Opens.struct (fun x : S50 => (x.f0, x.f1, x.f2, x.f3)) (fun y => ⟨y.1, y.2.1, y.2.2.1, y.2.2.2⟩) (fun _ => rfl) Try.underlying50 (by kernel_rfl) (OpensFs.cons (Opens.int Try.underlying3) (OpensFs.cons (Opens.int Try.underlying3) (OpensFs.cons (Opens.string Try.underlying9) (OpensFs.one (Opens.string Try.underlying9)))))
def laws_FnExactCompareAtoms.Pure : Prop := ∀ (x0 : S50) (x1 : S50), fit50 x0 → fit50 x1 → ∃ k, laws_FnExactCompareAtoms.f k x0.f0 x0.f1 x0.f2 x0.f3 x1.f0 x1.f1 x1.f2 x1.f3 = some true
end Go.Proofs.Ytmnlgdmojbhfcab.PFnExactCompareAtoms
