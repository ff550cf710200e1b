-- Written for this claim by a program of this session (mkrow.py).
import Derived.Test.YtmnlgdmojbhfcaaRows
import Derived.Test.YtmnlgdmojbhfcaaPureFnExactVerify
import Derived.WalkKit
import Derived.ProofKit
import Derived.OpenShut
import Derived.ShutString
import Derived.ChangeOld
import Derived.Below
import Derived.SizedLaws
namespace Go.Proofs.Ytmnlgdmojbhfcaa.fnExactVerify
open Go.ChangeShapes Go.WideShapes Go.ChangeAt Go.RowKit Go.Proofs.Ytmnlgdmojbhfcaa.PFnExactVerify Go.Proofs.YtmnlgdmojbhfcaaW.PrintWords Go.Proofs.YtmnlgdmojbhfcaaW.PrintLast Go.Proofs.YtmnlgdmojbhfcaaOpen
open Go.ChangeMaps (open_string shut_string)
set_option linter.unusedVariables false
theorem own : ownKnob Try.prog.godebug = none := by kernel_rfl
theorem laidOut : laidOutB Try.prog = true := by kernel_rfl
set_option maxHeartbeats 2000000 in
set_option maxRecDepth 100000 in
theorem lifted (os : Os) (started : os.Started) (H : Type) (enc : TypeId × Value → H) :
    ReturnsInHanded {} Try.checked os 7 .any (Rows.fnExactVerifySpec.pre6 enc Try.prog Try.f7 Rows.fnExactVerifyRow.domain false) (Rows.fnExactVerifySpec.post enc Try.prog Try.f7 false true false false) := by
  refine returnsInHanded_of_change_sized (C := Try.checked) own started (by kernel_rfl) Try.func7
    (ChangeSpec.witness6 (enc := enc) (C := Try.checked) false ⟨#[], #[.int .i64 0, .slice none 0 0, .agg #[.int .i64 0, .int .i64 0]], []⟩ 8 (by kernel_rfl) (by kernel_rfl) (by kernel_rfl) (by kernel_rfl)) ?_
  intro W base args ds gs before hval0 hW hcnd hsz0 _
  have hsz : (DataW.weightsEach Try.prog (Try.f7.params.toList ++ Rows.fnExactVerifySpec.plain.varTypes Try.prog) (ds ++ gs)).all (· ≤ reachBytes) = true := hsz0
  have hval : ∀ (j : Nat) t v, Try.f7.params[j]? = some t → args[j]? = some v → Value.okWide Try.prog W .any base t v := hval0
  have hW' := hW
  obtain ⟨p, q, hA0, hV, rfl, hfz, hnd⟩ := hW
  have hA : DataW.TrodAll enc Try.prog W 0 (fun _ => true) true Try.f7.params.toList args.toList ds p := hA0
  rw [Try.params7] at hA hval hsz
  obtain ⟨v0, vs0, d0, ds0, p0, q0, hargs, rfl, rfl, h0, r0⟩ := trodAll_cons hA
  obtain ⟨v1, vs1, d1, ds1, p1, q1, rfl, rfl, rfl, h1, r1⟩ := trodAll_cons r0
  obtain ⟨v2, vs2, d2, ds2, p2, q2, rfl, rfl, rfl, h2, r2⟩ := trodAll_cons r1
  obtain ⟨rfl, rfl, rfl⟩ := trodAll_nil r2
  obtain rfl : args = #[v0, v1, v2] := by cases args; simp_all
  obtain ⟨rfl, rfl⟩ := trodVars_none hV
  obtain ⟨a0, rfl, rfl, rfl, fit0⟩ := open_int Try.underlying3 (hval 0 3 v0 rfl rfl) h0
  have b1 : ∀ m ∈ d1.weights Try.prog 46, m ≤ reachBytes := fun m hm => by simpa using List.all_eq_true.1 hsz m (DataW.weights_mem_each (j := 1) (t := 46) (d := d1) rfl rfl m hm)
  obtain ⟨aa1, len1, cap1, rfl⟩ := okWide_slice Try.underlying46 (hval 1 46 v1 rfl rfl)
  have e1 := h1
  have lt1 : ∀ x ∈ p1, x.block < W.heap.size := by obtain ⟨m, hm⟩ := e1; exact DataW.trod_lt m _ _ _ hm
  obtain ⟨l1, A1, c1, eq1, lc1, g1, fit1⟩ : ∃ (l : (List Int)) (A : Option Addr) (c : Nat), (Value.slice aa1 len1 cap1) = .slice A l.length c ∧ l.length ≤ c ∧ (Kd.int .u8).C W A l.length l ∧ FitS 1 (fun y => (Lit.int .u8 y).wf = true) l := by
    obtain ⟨fuel, hf⟩ := h1
    obtain ⟨l, ⟨A, c, he, hl, hc⟩, hF⟩ := (Opens.slice (e' := 5) Try.underlying46 (by kernel_rfl) (by kernel_rfl) (Opens.int Try.underlying5)) enc W 0 _ true fuel _ _ _ hf b1
    simp [Value.cells] at he
    obtain ⟨rfl, rfl, rfl⟩ := he
    exact ⟨l, aa1, cap1, rfl, hl, hc, hF⟩
  simp only [Value.slice.injEq] at eq1
  obtain ⟨rfl, rfl, rfl⟩ := eq1
  have b2 : ∀ m ∈ d2.weights Try.prog 48, m ≤ reachBytes := fun m hm => by simpa using List.all_eq_true.1 hsz m (DataW.weights_mem_each (j := 2) (t := 48) (d := d2) rfl rfl m hm)
  obtain ⟨⟨cl2⟩, rfl, _⟩ := okWide_struct Try.underlying48 (hval 2 48 v2 rfl rfl)
  have e2 := h2
  have lt2 : ∀ x ∈ p2, x.block < W.heap.size := by obtain ⟨m, hm⟩ := e2; exact DataW.trod_lt m _ _ _ hm
  obtain ⟨x2, K2, fit2⟩ : ∃ x : S48, k48.K W x cl2 ∧ fit48 x := by
    obtain ⟨fuel, hf⟩ := h2
    exact opens48 enc W 0 _ true fuel _ _ _ hf b2
  obtain ⟨_, _, rfl, rfl, rfl⟩ := K2
  obtain ⟨k, hk⟩ := Pure.FnExactVerify a0 l1 x2 fit0 fit1 fit2
  clear hA0 hval0 hsz0 hsz
  refine (laws_FnExactVerify.calls (k := k) (a0 := a0) (A1 := aa1) (c1 := cap1) (l1 := l1) (a2_0 := x2.f0) (a2_1 := x2.f1) (hr1 := g1) (hc1 := lc1) (r := true) (w := W) (h := hk)).mono fun e W' ⟨he, bel⟩ => ?_
  subst he
  exact ⟨_, rfl, _, _, _, [], _, [], hW', trodAll_mk1 (shut_bool Try.underlying4 _), (trodAll_cons_mk (shut_int Try.underlying3 fit0) (trodAll_cons_mk (Below.trod laidOut (by kernel_rfl) (of_decide_eq_true (by kernel_rfl)) e1 bel lt1) (trodAll_cons_mk (Below.trod laidOut (by kernel_rfl) (of_decide_eq_true (by kernel_rfl)) e2 bel lt2) trodAll_mk0))), rfl, bel.frame _, fun h => by cases h⟩
theorem over : Rows.fnExactVerifyRow.holds Try.pinned (OpenSpec.ofChange Rows.fnExactVerifySpec) :=
  OpenClaim.holds_of_wide 7 Try.f7 rfl rfl rfl rfl rfl rfl rfl ⟨rfl, rfl, rfl, rfl, rfl⟩ rfl rfl rfl rfl rfl (by kernel_rfl) Try.func7 (by kernel_rfl)
    (of_decide_eq_true (by kernel_rfl)) (by unfold Func.isWrapper; first | (rw [if_pos (by decide +kernel)]; kernel_rfl) | (rw [if_neg (by decide +kernel)]; exact ⟨rfl, rfl⟩))
    (fun os started H enc _ => lifted os started H enc)
theorem proved : Rows.FnExactVerifySaid := over
#print axioms proved
end Go.Proofs.Ytmnlgdmojbhfcaa.fnExactVerify
namespace Go.Proofs.Ytmnlgdmojbhfcaa
/-- The row, under a short name, for the claim. -/
theorem fnExactVerify_holds : Rows.FnExactVerifySaid := fnExactVerify.proved
end Go.Proofs.Ytmnlgdmojbhfcaa
