-- Written for this claim by a program of this session (mkrow.py).
import Derived.Test.YtmnlgdmojbhfcabPFnExactUnderx5
import Derived.Test.YtmnlgdmojbhfcabOpen
namespace Go.Proofs.Ytmnlgdmojbhfcab.PFnExactUnder
open Go.RowKit Go.Proofs.YtmnlgdmojbhfcabW.PrintWords Go.Proofs.YtmnlgdmojbhfcabW.PrintLast Go.Proofs.YtmnlgdmojbhfcabOpen
set_option linter.unusedVariables false
def fit59 (x : S59) : Prop := ((x.f0).size ≤ 140737488351232) ∧ ((x.f1).size ≤ 140737488351232)
theorem opens59 : Opens Try.prog 59 k59 fit59 := Opens.struct (fun x : S59 => (x.f0, x.f1)) (fun y => ⟨y.1, y.2⟩) (fun _ => rfl) Try.underlying59 (by kernel_rfl) (OpensFs.cons (Opens.string Try.underlying9) (OpensFs.one (Opens.string Try.underlying9)))
def laws_FnExactUnder.Pure : Prop := ∀ (l0 : (List S59)) (l1 : (List S59)), FitS 32 fit59 l0 → FitS 32 fit59 l1 → ∃ k, laws_FnExactUnder.f k l0 l1 = some true
end Go.Proofs.Ytmnlgdmojbhfcab.PFnExactUnder
