-- Written for this claim by a program of this session (mkrow.py).
import Derived.Test.YtcgiegkcmofhhaaPFnExactNameTextx5
import Derived.Test.YtcgiegkcmofhhaaOpen
namespace Go.Proofs.Ytcgiegkcmofhhaa.PFnExactNameText
open Go.RowKit Go.Proofs.YtcgiegkcmofhhaaW.PrintWords Go.Proofs.YtcgiegkcmofhhaaW.PrintLast Go.Proofs.YtcgiegkcmofhhaaOpen
set_option linter.unusedVariables false
def fit76 (x : S76) : Prop := ((x.f0).size ≤ 140737488351232) ∧ ((x.f1).size ≤ 140737488351232)
theorem opens76 : Opens Try.prog 76 k76 fit76 := Opens.struct (fun x : S76 => (x.f0, x.f1)) (fun y => ⟨y.1, y.2⟩) (fun _ => rfl) Try.underlying76 (by kernel_rfl) (OpensFs.cons (Opens.string Try.underlying9) (OpensFs.one (Opens.string Try.underlying9)))
def laws_FnExactNameText.Pure : Prop := ∀ (l0 : (List S76)), FitS 32 fit76 l0 → ∃ k, laws_FnExactNameText.f k l0 = some true
end Go.Proofs.Ytcgiegkcmofhhaa.PFnExactNameText
