-- Written for this claim by a program of this session (mkrow.py).
import Derived.Test.YtmnlgdmojbhfcaaPFnExactVerifyx5
import Derived.Test.YtmnlgdmojbhfcaaOpen
namespace Go.Proofs.Ytmnlgdmojbhfcaa.PFnExactVerify
open Go.RowKit Go.Proofs.YtmnlgdmojbhfcaaW.PrintWords Go.Proofs.YtmnlgdmojbhfcaaW.PrintLast Go.Proofs.YtmnlgdmojbhfcaaOpen
set_option linter.unusedVariables false
structure S48 where
  f0 : Int
  f1 : Int
def k48 : Kd S48 := Kd.iso (Kd.pair (Kd.int .i64) (Kd.int .i64)) (fun x : S48 => (x.f0, x.f1))
def fit48 (x : S48) : Prop := ((Lit.int .i64 x.f0).wf = true) ∧ ((Lit.int .i64 x.f1).wf = true)
theorem opens48 : Opens Try.prog 48 k48 fit48 := Opens.struct (fun x : S48 => (x.f0, x.f1)) (fun y => ⟨y.1, y.2⟩) (fun _ => rfl) Try.underlying48 (by kernel_rfl) (OpensFs.cons (Opens.int Try.underlying3) (OpensFs.one (Opens.int Try.underlying3)))
def laws_FnExactVerify.Pure : Prop := ∀ (a0 : Int) (l1 : (List Int)) (x2 : S48), (Lit.int .i64 a0).wf = true → FitS 1 (fun y => (Lit.int .u8 y).wf = true) l1 → fit48 x2 → ∃ k, laws_FnExactVerify.f k a0 l1 x2.f0 x2.f1 = some true
end Go.Proofs.Ytmnlgdmojbhfcaa.PFnExactVerify
