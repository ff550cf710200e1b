-- Written for this claim by a program of this session (mkrow.py).
import Derived.Test.YtmnlgdmojbhfcaaPFnExactAddrInx6
import Derived.Test.YtmnlgdmojbhfcaaOpen
namespace Go.Proofs.Ytmnlgdmojbhfcaa.PFnExactAddrIn
open Go.RowKit Go.Proofs.YtmnlgdmojbhfcaaW.PrintWords Go.Proofs.YtmnlgdmojbhfcaaW.PrintLast Go.Proofs.YtmnlgdmojbhfcaaOpen
set_option linter.unusedVariables false
structure S31 where
  f0 : Int
  f1 : Int
  f2 : ByteArray
  f3 : ByteArray
def k31 : Kd S31 := Kd.iso (Kd.pair (Kd.int .i64) (Kd.pair (Kd.int .i64) (Kd.pair Kd.string Kd.string))) (fun x : S31 => (x.f0, x.f1, x.f2, x.f3))
def fit31 (x : S31) : Prop := ((Lit.int .i64 x.f0).wf = true) ∧ ((Lit.int .i64 x.f1).wf = true) ∧ ((x.f2).size ≤ 140737488351232) ∧ ((x.f3).size ≤ 140737488351232)
theorem opens31 : Opens Try.prog 31 k31 fit31 := Opens.struct (fun x : S31 => (x.f0, x.f1, x.f2, x.f3)) (fun y => ⟨y.1, y.2.1, y.2.2.1, y.2.2.2⟩) (fun _ => rfl) Try.underlying31 (by kernel_rfl) (OpensFs.cons (Opens.int Try.underlying3) (OpensFs.cons (Opens.int Try.underlying3) (OpensFs.cons (Opens.string Try.underlying9) (OpensFs.one (Opens.string Try.underlying9)))))
def laws_FnExactAddrIn.Pure : Prop := ∀ (x0 : S31) (x1 : S31), fit31 x0 → fit31 x1 → ∃ k, laws_FnExactAddrIn.f k x0.f0 x0.f1 x0.f2 x0.f3 x1.f0 x1.f1 x1.f2 x1.f3 = some true
end Go.Proofs.Ytmnlgdmojbhfcaa.PFnExactAddrIn
