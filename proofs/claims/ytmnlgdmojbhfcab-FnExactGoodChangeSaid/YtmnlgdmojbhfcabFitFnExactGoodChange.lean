-- Written for this claim by a program of this session (mkrow.py).
import Derived.Test.YtmnlgdmojbhfcabPFnExactGoodChangex6
import Derived.Test.YtmnlgdmojbhfcabOpen
namespace Go.Proofs.Ytmnlgdmojbhfcab.PFnExactGoodChange
open Go.RowKit Go.Proofs.YtmnlgdmojbhfcabW.PrintWords Go.Proofs.YtmnlgdmojbhfcabW.PrintLast Go.Proofs.YtmnlgdmojbhfcabOpen
set_option linter.unusedVariables false
structure S57 where
  f0 : Int
  f1 : Int
def k57 : Kd S57 := Kd.iso (Kd.pair (Kd.int .i64) (Kd.int .i64)) (fun x : S57 => (x.f0, x.f1))
def fit57 (x : S57) : Prop := ((Lit.int .i64 x.f0).wf = true) ∧ ((Lit.int .i64 x.f1).wf = true)
theorem opens57 : Opens Try.prog 57 k57 fit57 := Opens.struct (fun x : S57 => (x.f0, x.f1)) (fun y => ⟨y.1, y.2⟩) (fun _ => rfl) Try.underlying57 (by kernel_rfl) (OpensFs.cons (Opens.int Try.underlying3) (OpensFs.one (Opens.int Try.underlying3)))
structure S59 where
  f0 : ByteArray
  f1 : ByteArray
def k59 : Kd S59 := Kd.iso (Kd.pair Kd.string Kd.string) (fun x : S59 => (x.f0, x.f1))
def fit59 (x : S59) : Prop := ((x.f0).size ≤ 140737488351232) ∧ ((x.f1).size ≤ 140737488351232)
theorem opens59 : Opens Try.prog 59 k59 fit59 := Opens.struct (fun x : S59 => (x.f0, x.f1)) (fun y => ⟨y.1, y.2⟩) (fun _ => rfl) Try.underlying59 (by kernel_rfl) (OpensFs.cons (Opens.string Try.underlying9) (OpensFs.one (Opens.string Try.underlying9)))
structure S61 where
  f0 : S57
  f1 : Int
  f2 : Int
  f3 : Int
  f4 : S59
  f5 : ByteArray
  f6 : ByteArray
def k61 : Kd S61 := Kd.iso (Kd.pair k57 (Kd.pair (Kd.int .i64) (Kd.pair (Kd.int .i64) (Kd.pair (Kd.int .i64) (Kd.pair k59 (Kd.pair Kd.string Kd.string)))))) (fun x : S61 => (x.f0, x.f1, x.f2, x.f3, x.f4, x.f5, x.f6))
def fit61 (x : S61) : Prop := (fit57 x.f0) ∧ ((Lit.int .i64 x.f1).wf = true) ∧ ((Lit.int .i64 x.f2).wf = true) ∧ ((Lit.int .i64 x.f3).wf = true) ∧ (fit59 x.f4) ∧ ((x.f5).size ≤ 140737488351232) ∧ ((x.f6).size ≤ 140737488351232)
theorem opens61 : Opens Try.prog 61 k61 fit61 := Opens.struct (fun x : S61 => (x.f0, x.f1, x.f2, x.f3, x.f4, x.f5, x.f6)) (fun y => ⟨y.1, y.2.1, y.2.2.1, y.2.2.2.1, y.2.2.2.2.1, y.2.2.2.2.2.1, y.2.2.2.2.2.2⟩) (fun _ => rfl) Try.underlying61 (by kernel_rfl) (OpensFs.cons opens57 (OpensFs.cons (Opens.int Try.underlying3) (OpensFs.cons (Opens.int Try.underlying3) (OpensFs.cons (Opens.int Try.underlying3) (OpensFs.cons opens59 (OpensFs.cons (Opens.string Try.underlying9) (OpensFs.one (Opens.string Try.underlying9))))))))
def laws_FnExactGoodChange.Pure : Prop := ∀ (x0 : S61), fit61 x0 → ∃ k, laws_FnExactGoodChange.f k x0.f0.f0 x0.f0.f1 x0.f1 x0.f2 x0.f3 x0.f4.f0 x0.f4.f1 x0.f5 x0.f6 = some true
end Go.Proofs.Ytmnlgdmojbhfcab.PFnExactGoodChange
