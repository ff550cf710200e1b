-- Written for this claim by a program of this session (mkrow.py).
import Derived.Test.YtcgiegkcmofhhabPFnExactMissingx16
import Derived.Test.YtcgiegkcmofhhabOpen
namespace Go.Proofs.Ytcgiegkcmofhhab.PFnExactMissing
open Go.RowKit Go.Proofs.YtcgiegkcmofhhabW.PrintWords Go.Proofs.YtcgiegkcmofhhabW.PrintLast Go.Proofs.YtcgiegkcmofhhabOpen
set_option linter.unusedVariables false
def fit87 (x : S87) : Prop := ((Lit.int .i64 x.f0).wf = true) ∧ ((Lit.int .i64 x.f1).wf = true)
theorem opens87 : Opens Try.prog 87 k87 fit87 := Opens.struct (fun x : S87 => (x.f0, x.f1)) (fun y => ⟨y.1, y.2⟩) (fun _ => rfl) Try.underlying87 (by kernel_rfl) (OpensFs.cons (Opens.int Try.underlying3) (OpensFs.one (Opens.int Try.underlying3)))
def fit89 (x : S89) : Prop := ((x.f0).size ≤ 140737488351232) ∧ ((x.f1).size ≤ 140737488351232)
theorem opens89 : Opens Try.prog 89 k89 fit89 := Opens.struct (fun x : S89 => (x.f0, x.f1)) (fun y => ⟨y.1, y.2⟩) (fun _ => rfl) Try.underlying89 (by kernel_rfl) (OpensFs.cons (Opens.string Try.underlying9) (OpensFs.one (Opens.string Try.underlying9)))
def fit91 (x : S91) : Prop := (fit87 x.f0) ∧ ((Lit.int .i64 x.f1).wf = true) ∧ ((Lit.int .i64 x.f2).wf = true) ∧ ((Lit.int .i64 x.f3).wf = true) ∧ (fit89 x.f4) ∧ ((x.f5).size ≤ 140737488351232) ∧ ((x.f6).size ≤ 140737488351232)
theorem opens91 : Opens Try.prog 91 k91 fit91 := Opens.struct (fun x : S91 => (x.f0, x.f1, x.f2, x.f3, x.f4, x.f5, x.f6)) (fun y => ⟨y.1, y.2.1, y.2.2.1, y.2.2.2.1, y.2.2.2.2.1, y.2.2.2.2.2.1, y.2.2.2.2.2.2⟩) (fun _ => rfl) Try.underlying91 (by kernel_rfl) (OpensFs.cons opens87 (OpensFs.cons (Opens.int Try.underlying3) (OpensFs.cons (Opens.int Try.underlying3) (OpensFs.cons (Opens.int Try.underlying3) (OpensFs.cons opens89 (OpensFs.cons (Opens.string Try.underlying9) (OpensFs.one (Opens.string Try.underlying9))))))))
def laws_FnExactMissing.Pure : Prop := ∀ (l0 : (List S91)) (l1 : (List S87)), FitS 104 fit91 l0 → FitS 16 fit87 l1 → ∃ k, laws_FnExactMissing.f k l0 l1 = some true
end Go.Proofs.Ytcgiegkcmofhhab.PFnExactMissing
