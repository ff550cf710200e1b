-- Written for this claim by a program of this session (mkrow.py).
import Derived.Test.YtmnlgdmojbhfcabPFnExactGoodNestsx7
import Derived.Test.YtmnlgdmojbhfcabOpen
namespace Go.Proofs.Ytmnlgdmojbhfcab.PFnExactGoodNests
open Go.RowKit Go.Proofs.YtmnlgdmojbhfcabW.PrintWords Go.Proofs.YtmnlgdmojbhfcabW.PrintLast Go.Proofs.YtmnlgdmojbhfcabOpen
set_option linter.unusedVariables false
def fit82 (x : S82) : Prop := ((x.f0).size ≤ 140737488351232) ∧ ((x.f1).size ≤ 140737488351232)
theorem opens82 : Opens Try.prog 82 k82 fit82 := Opens.struct (fun x : S82 => (x.f0, x.f1)) (fun y => ⟨y.1, y.2⟩) (fun _ => rfl) Try.underlying82 (by kernel_rfl) (OpensFs.cons (Opens.string Try.underlying9) (OpensFs.one (Opens.string Try.underlying9)))
def laws_FnExactGoodNests.Pure : Prop := ∀ (l0 : (List S82)), FitS 32 fit82 l0 → ∃ k, laws_FnExactGoodNests.f k l0 = some true
end Go.Proofs.Ytmnlgdmojbhfcab.PFnExactGoodNests
