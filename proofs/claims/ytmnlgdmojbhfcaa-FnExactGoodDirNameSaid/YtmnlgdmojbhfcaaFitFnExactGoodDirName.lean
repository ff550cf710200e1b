-- Written for this claim by a program of this session (mkrow.py).
import Derived.Test.YtmnlgdmojbhfcaaPFnExactGoodDirNamex3
import Derived.Test.YtmnlgdmojbhfcaaOpen
namespace Go.Proofs.Ytmnlgdmojbhfcaa.PFnExactGoodDirName
open Go.RowKit Go.Proofs.YtmnlgdmojbhfcaaW.PrintWords Go.Proofs.YtmnlgdmojbhfcaaW.PrintLast Go.Proofs.YtmnlgdmojbhfcaaOpen
set_option linter.unusedVariables false
def fit72 (x : S72) : Prop := ((x.f0).size ≤ 140737488351232) ∧ ((x.f1).size ≤ 140737488351232)
theorem opens72 : Opens Try.prog 72 k72 fit72 := Opens.struct (fun x : S72 => (x.f0, x.f1)) (fun y => ⟨y.1, y.2⟩) (fun _ => rfl) Try.underlying72 (by kernel_rfl) (OpensFs.cons (Opens.string Try.underlying9) (OpensFs.one (Opens.string Try.underlying9)))
def laws_FnExactGoodDirName.Pure : Prop := ∀ (l0 : (List S72)), FitS 32 fit72 l0 → ∃ k, laws_FnExactGoodDirName.f k l0 = some true
end Go.Proofs.Ytmnlgdmojbhfcaa.PFnExactGoodDirName
