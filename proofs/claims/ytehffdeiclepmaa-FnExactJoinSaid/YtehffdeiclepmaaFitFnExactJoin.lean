-- Written for this claim by a program of this session (mkrow.py).
import Derived.Test.YtehffdeiclepmaaPFnExactJoinx4
import Derived.Test.YtehffdeiclepmaaOpen
namespace Go.Proofs.Ytehffdeiclepmaa.PFnExactJoin
open Go.RowKit Go.Proofs.YtehffdeiclepmaaW.PrintWords Go.Proofs.YtehffdeiclepmaaW.PrintLast Go.Proofs.YtehffdeiclepmaaOpen
set_option linter.unusedVariables false
def fit34 (x : S34) : Prop := ((Lit.int .i64 x.f0).wf = true) ∧ ((Lit.int .i64 x.f1).wf = true)
theorem opens34 : Opens Try.prog 34 k34 fit34 := Opens.struct (fun x : S34 => (x.f0, x.f1)) (fun y => ⟨y.1, y.2⟩) (fun _ => rfl) Try.underlying34 (by kernel_rfl) (OpensFs.cons (Opens.int Try.underlying3) (OpensFs.one (Opens.int Try.underlying3)))
def laws_FnExactJoin.Pure : Prop := ∀ (l0 : (List S34)), FitS 16 fit34 l0 → ∃ k, laws_FnExactJoin.f k l0 = some true
end Go.Proofs.Ytehffdeiclepmaa.PFnExactJoin
