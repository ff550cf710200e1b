-- Written for this claim by a program of this session (mkrow.py).
import Derived.Test.YtcgiegkcmofhhaaPFnExactGoodValuex14
import Derived.Test.YtcgiegkcmofhhaaOpen
namespace Go.Proofs.Ytcgiegkcmofhhaa.PFnExactGoodValue
open Go.RowKit Go.Proofs.YtcgiegkcmofhhaaW.PrintWords Go.Proofs.YtcgiegkcmofhhaaW.PrintLast Go.Proofs.YtcgiegkcmofhhaaOpen
set_option linter.unusedVariables false
def fit54 (x : S54) : Prop := ((Lit.int .i64 x.f0).wf = true) ∧ ((Lit.int .i64 x.f1).wf = true) ∧ ((x.f2).size ≤ 140737488351232) ∧ ((x.f3).size ≤ 140737488351232)
theorem opens54 : Opens Try.prog 54 k54 fit54 := Opens.struct (fun x : S54 => (x.f0, x.f1, x.f2, x.f3)) (fun y => ⟨y.1, y.2.1, y.2.2.1, y.2.2.2⟩) (fun _ => rfl) Try.underlying54 (by kernel_rfl) (OpensFs.cons (Opens.int Try.underlying3) (OpensFs.cons (Opens.int Try.underlying3) (OpensFs.cons (Opens.string Try.underlying9) (OpensFs.one (Opens.string Try.underlying9)))))
structure S57 where
  f0 : Int
  f1 : S54
  f2 : (List S54)
  f3 : (List ByteArray)
def k57 : Kd S57 := Kd.iso (Kd.pair (Kd.int .i64) (Kd.pair k54 (Kd.pair (Kd.slice 54 k54) (Kd.slice 9 Kd.string)))) (fun x : S57 => (x.f0, x.f1, x.f2, x.f3))
def fit57 (x : S57) : Prop := ((Lit.int .i64 x.f0).wf = true) ∧ (fit54 x.f1) ∧ (FitS 48 fit54 x.f2) ∧ (FitS 16 (fun y => (y).size ≤ 140737488351232) x.f3)
theorem opens57 : Opens Try.prog 57 k57 fit57 := Opens.struct (fun x : S57 => (x.f0, x.f1, x.f2, x.f3)) (fun y => ⟨y.1, y.2.1, y.2.2.1, y.2.2.2⟩) (fun _ => rfl) Try.underlying57 (by kernel_rfl) (OpensFs.cons (Opens.int Try.underlying3) (OpensFs.cons opens54 (OpensFs.cons (Opens.slice Try.underlying55 (by kernel_rfl) (by kernel_rfl) opens54) (OpensFs.one (Opens.slice Try.underlying31 (by kernel_rfl) (by kernel_rfl) (Opens.string Try.underlying9))))))
def laws_FnExactGoodValue.Pure : Prop := ∀ (x0 : S57), fit57 x0 → ∃ k, laws_FnExactGoodValue.f k x0.f0 x0.f1.f0 x0.f1.f1 x0.f1.f2 x0.f1.f3 x0.f2 x0.f3 = some true
end Go.Proofs.Ytcgiegkcmofhhaa.PFnExactGoodValue
