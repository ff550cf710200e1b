-- Written for this claim by a program of this session (mklaw.py).
import Derived.Test.YtbkeooaepmiafaaRows
import Derived.Test.YtbkeooaepmiafaaPureFnExactTermHolds
import Derived.WalkKit
import Derived.ProofKit
import Derived.OpenShut
import Derived.ShutString
import Derived.ChangeOld
import Derived.Below
import Derived.SizedLaws
namespace Go.Proofs.Ytbkeooaepmiafaa.fnExactTermHolds
open Go.ChangeShapes Go.WideShapes Go.ChangeAt Go.RowKit Go.Den Go.Proofs.Ytbkeooaepmiafaa.PA
open Go.ChangeMaps (open_string shut_string)
set_option linter.unusedVariables false
theorem own : ownKnob Try.prog.godebug = none := by kernel_rfl
theorem laidOut : laidOutB Try.prog = true := by kernel_rfl
theorem mixed : Try.prog.follows .mixedOrders = true := by kernel_rfl
theorem sure : E.ok = true := by kernel_rfl
theorem single : retTup E.prog 3 = false := by kernel_rfl
set_option maxHeartbeats 2000000 in
set_option maxRecDepth 100000 in
theorem lifted (os : Os) (started : os.Started) (H : Type) (enc : TypeId × Value → H) :
    ReturnsInHanded {} Try.checked os 3 .any (Rows.fnExactTermHoldsSpec.pre6 enc Try.prog Try.f3 Rows.fnExactTermHoldsRow.domain false) (Rows.fnExactTermHoldsSpec.post enc Try.prog Try.f3 false true false false) := by
  refine returnsInHanded_of_change_sized (C := Try.checked) own started (by kernel_rfl) Try.func3
    (ChangeSpec.witness6 (enc := enc) (C := Try.checked) false ⟨#[], #[.agg #[.string ByteArray.empty, .int .i64 0, .string ByteArray.empty, .int .i64 0, .int .i64 0, .string ByteArray.empty, .string ByteArray.empty], .slice none 0 0, .agg #[.int .i64 0, .int .i64 0, .int .i64 0, .string ByteArray.empty, .string ByteArray.empty, .slice none 0 0, .slice none 0 0]], []⟩ 8 (by kernel_rfl) (by kernel_rfl) (by kernel_rfl) (by kernel_rfl)) ?_
  intro W base args ds gs before hval0 hW hcnd hsz0 _
  have hsz : (DataW.weightsEach Try.prog (Try.f3.params.toList ++ Rows.fnExactTermHoldsSpec.plain.varTypes Try.prog) (ds ++ gs)).all (· ≤ reachBytes) = true := hsz0
  have hval : ∀ (j : Nat) t v, Try.f3.params[j]? = some t → args[j]? = some v → Value.okWide Try.prog W .any base t v := hval0
  have hW' := hW
  obtain ⟨p, q, hA0, hV, rfl, hfz, hnd⟩ := hW
  have hA : DataW.TrodAll enc Try.prog W 0 (fun _ => true) true Try.f3.params.toList args.toList ds p := hA0
  rw [Try.params3] at hA hval hsz
  obtain ⟨v0, vs0, d0, ds0, p0, q0, hargs, rfl, rfl, h0, r0⟩ := trodAll_cons hA
  obtain ⟨v1, vs1, d1, ds1, p1, q1, rfl, rfl, rfl, h1, r1⟩ := trodAll_cons r0
  obtain ⟨v2, vs2, d2, ds2, p2, q2, rfl, rfl, rfl, h2, r2⟩ := trodAll_cons r1
  obtain ⟨rfl, rfl, rfl⟩ := trodAll_nil r2
  obtain rfl : args = #[v0, v1, v2] := by cases args; simp_all
  obtain ⟨rfl, rfl⟩ := trodVars_none hV
  have b0 : ∀ m ∈ d0.weights Try.prog 25, m ≤ reachBytes := fun m hm => by simpa using List.all_eq_true.1 hsz m (DataW.weights_mem_each (j := 0) (t := 25) (d := d0) rfl rfl m hm)
  have e0 := h0
  have lt0 : ∀ x ∈ p0, x.block < W.heap.size := by obtain ⟨m, hm⟩ := e0; exact DataW.trod_lt m _ _ _ hm
  obtain ⟨a0, fit0, rel0⟩ : ∃ x : sem S24, fitSh S24 x ∧ ∀ n, Rel (G0 n (allOf W)) [] (.d S24 x (Sh.flat S24)) v0 := by
    obtain ⟨fuel, hf⟩ := h0
    exact arg_ok (by kernel_rfl) (hval 0 25 v0 rfl rfl) hf b0
  have b1 : ∀ m ∈ d1.weights Try.prog 26, m ≤ reachBytes := fun m hm => by simpa using List.all_eq_true.1 hsz m (DataW.weights_mem_each (j := 1) (t := 26) (d := d1) rfl rfl m hm)
  have e1 := h1
  have lt1 : ∀ x ∈ p1, x.block < W.heap.size := by obtain ⟨m, hm⟩ := e1; exact DataW.trod_lt m _ _ _ hm
  obtain ⟨a1, fit1, rel1⟩ : ∃ x : sem (.list S74), fitSh (.list S74) x ∧ ∀ n, Rel (G0 n (allOf W)) [] (.d (.list S74) x (Sh.flat (.list S74))) v1 := by
    obtain ⟨fuel, hf⟩ := h1
    exact arg_ok (by kernel_rfl) (hval 1 26 v1 rfl rfl) hf b1
  have b2 : ∀ m ∈ d2.weights Try.prog 30, m ≤ reachBytes := fun m hm => by simpa using List.all_eq_true.1 hsz m (DataW.weights_mem_each (j := 2) (t := 30) (d := d2) rfl rfl m hm)
  have e2 := h2
  have lt2 : ∀ x ∈ p2, x.block < W.heap.size := by obtain ⟨m, hm⟩ := e2; exact DataW.trod_lt m _ _ _ hm
  obtain ⟨a2, fit2, rel2⟩ : ∃ x : sem S29, fitSh S29 x ∧ ∀ n, Rel (G0 n (allOf W)) [] (.d S29 x (Sh.flat S29)) v2 := by
    obtain ⟨fuel, hf⟩ := h2
    exact arg_ok (by kernel_rfl) (hval 2 30 v2 rfl rfl) hf b2
  obtain ⟨k, hk⟩ := Pure.FnExactTermHolds a0 a1 a2 fit0 fit1 fit2
  clear hA0 hval0 hsz0 hsz
  have rels : Rels (G0 W.heap.size (allOf W)) [] [.d S24 a0 true, .d (.list S74) a1 false, .d S29 a2 false] [v0, v1, v2] := (Rels.cons (rel0 _) (Rels.cons (rel1 _) (Rels.cons (rel2 _) Rels.nil)))
  refine (Env.law E mixed sure (by show Tab.Ok _ _ []; unfold Tab.Ok; trivial) (k := k) (f := 3) («as» := [.d S24 a0 true, .d (.list S74) a1 false, .d S29 a2 false]) hk single (w := W) (vs := #[v0, v1, v2]) rels).mono fun e W' ⟨he, bel⟩ => ?_
  subst he
  exact ⟨_, rfl, _, _, _, [], _, [], hW', trodAll_mk1 (shut_bool Try.underlying4 _), (trodAll_cons_mk (Below.trod laidOut (by kernel_rfl) (of_decide_eq_true (by kernel_rfl)) e0 bel lt0) (trodAll_cons_mk (Below.trod laidOut (by kernel_rfl) (of_decide_eq_true (by kernel_rfl)) e1 bel lt1) (trodAll_cons_mk (Below.trod laidOut (by kernel_rfl) (of_decide_eq_true (by kernel_rfl)) e2 bel lt2) trodAll_mk0))), rfl, bel.frame _, fun h => by cases h⟩
theorem over : Rows.fnExactTermHoldsRow.holds Try.pinned (OpenSpec.ofChange Rows.fnExactTermHoldsSpec) :=
  OpenClaim.holds_of_wide 3 Try.f3 rfl rfl rfl rfl rfl rfl rfl ⟨rfl, rfl, rfl, rfl, rfl⟩ rfl rfl rfl rfl rfl (by kernel_rfl) Try.func3 (by kernel_rfl)
    (of_decide_eq_true (by kernel_rfl)) (by unfold Func.isWrapper; first | (rw [if_pos (by decide +kernel)]; kernel_rfl) | (rw [if_neg (by decide +kernel)]; exact ⟨rfl, rfl⟩))
    (fun os started H enc _ => lifted os started H enc)
theorem proved : Rows.FnExactTermHoldsSaid := over
#print axioms proved
end Go.Proofs.Ytbkeooaepmiafaa.fnExactTermHolds
namespace Go.Proofs.Ytbkeooaepmiafaa
/-- The row, under a short name, for the claim. -/
theorem fnExactTermHolds_holds : Rows.FnExactTermHoldsSaid := fnExactTermHolds.proved
end Go.Proofs.Ytbkeooaepmiafaa
