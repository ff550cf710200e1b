-- Written for this claim by a program of this session (mkrow.py).
import Derived.Test.YtcgiegkcmofhhaaPFnExactGoodLogx11
import Derived.Test.YtcgiegkcmofhhaaOpen
namespace Go.Proofs.Ytcgiegkcmofhhaa.PFnExactGoodLog
open Go.RowKit Go.Proofs.YtcgiegkcmofhhaaW.PrintWords Go.Proofs.YtcgiegkcmofhhaaW.PrintLast Go.Proofs.YtcgiegkcmofhhaaOpen
set_option linter.unusedVariables false
def fit129 (x : S129) : Prop := ((Lit.int .i64 x.f0).wf = true) ∧ ((Lit.int .i64 x.f1).wf = true)
theorem opens129 : Opens Try.prog 129 k129 fit129 := Opens.struct (fun x : S129 => (x.f0, x.f1)) (fun y => ⟨y.1, y.2⟩) (fun _ => rfl) Try.underlying129 (by kernel_rfl) (OpensFs.cons (Opens.int Try.underlying3) (OpensFs.one (Opens.int Try.underlying3)))
def fit76 (x : S76) : Prop := ((x.f0).size ≤ 140737488351232) ∧ ((x.f1).size ≤ 140737488351232)
theorem opens76 : Opens Try.prog 76 k76 fit76 := Opens.struct (fun x : S76 => (x.f0, x.f1)) (fun y => ⟨y.1, y.2⟩) (fun _ => rfl) Try.underlying76 (by kernel_rfl) (OpensFs.cons (Opens.string Try.underlying9) (OpensFs.one (Opens.string Try.underlying9)))
def fit131 (x : S131) : Prop := (fit129 x.f0) ∧ ((Lit.int .i64 x.f1).wf = true) ∧ ((Lit.int .i64 x.f2).wf = true) ∧ ((Lit.int .i64 x.f3).wf = true) ∧ (fit76 x.f4) ∧ ((x.f5).size ≤ 140737488351232) ∧ ((x.f6).size ≤ 140737488351232)
theorem opens131 : Opens Try.prog 131 k131 fit131 := Opens.struct (fun x : S131 => (x.f0, x.f1, x.f2, x.f3, x.f4, x.f5, x.f6)) (fun y => ⟨y.1, y.2.1, y.2.2.1, y.2.2.2.1, y.2.2.2.2.1, y.2.2.2.2.2.1, y.2.2.2.2.2.2⟩) (fun _ => rfl) Try.underlying131 (by kernel_rfl) (OpensFs.cons opens129 (OpensFs.cons (Opens.int Try.underlying3) (OpensFs.cons (Opens.int Try.underlying3) (OpensFs.cons (Opens.int Try.underlying3) (OpensFs.cons opens76 (OpensFs.cons (Opens.string Try.underlying9) (OpensFs.one (Opens.string Try.underlying9))))))))
def laws_FnExactGoodLog.Pure : Prop := ∀ (l0 : (List S131)), FitS 104 fit131 l0 → ∃ k, laws_FnExactGoodLog.f k l0 = some true
end Go.Proofs.Ytcgiegkcmofhhaa.PFnExactGoodLog
