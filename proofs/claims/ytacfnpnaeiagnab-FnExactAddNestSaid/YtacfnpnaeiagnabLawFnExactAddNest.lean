-- Written for this claim by a program of this session (mklaw.py).
import Derived.Test.YtacfnpnaeiagnabRows
import Derived.Test.YtacfnpnaeiagnabPureFnExactAddNest
import Derived.Test.YtacfnpnaeiagnabSortA
import Derived.Test.YtacfnpnaeiagnabInsA
import Derived.WalkKit
import Derived.ProofKit
import Derived.OpenShut
import Derived.ShutString
import Derived.ChangeOld
import Derived.Below
import Derived.SizedLaws
namespace Go.Proofs.Ytacfnpnaeiagnab.fnExactAddNest
open Go.ChangeShapes Go.WideShapes Go.ChangeAt Go.RowKit Go.Den Go.Proofs.Ytacfnpnaeiagnab.PA
open Go.ChangeMaps (open_string shut_string)
set_option linter.unusedVariables false
theorem own : ownKnob Try.prog.godebug = none := by kernel_rfl
theorem laidOut : laidOutB Try.prog = true := by kernel_rfl
theorem mixed : Try.prog.follows .mixedOrders = true := by kernel_rfl
theorem sure : E.ok = true := by kernel_rfl
theorem single : retTup E.prog 3 = false := by kernel_rfl
set_option maxHeartbeats 2000000 in
set_option maxRecDepth 100000 in
theorem lifted (os : Os) (started : os.Started) (H : Type) (enc : TypeId × Value → H) :
    ReturnsInHanded {} Try.checked os 3 .any (Rows.fnExactAddNestSpec.pre6 enc Try.prog Try.f3 Rows.fnExactAddNestRow.domain false) (Rows.fnExactAddNestSpec.post enc Try.prog Try.f3 false true false false) := by
  refine returnsInHanded_of_change_sized (C := Try.checked) own started (by kernel_rfl) Try.func3
    (ChangeSpec.witness6 (enc := enc) (C := Try.checked) false ⟨#[], #[.slice none 0 0, .slice none 0 0, .agg #[.string ByteArray.empty, .string ByteArray.empty]], []⟩ 8 (by kernel_rfl) (by kernel_rfl) (by kernel_rfl) (by kernel_rfl)) ?_
  intro W base args ds gs before hval0 hW hcnd hsz0 _
  have hsz : (DataW.weightsEach Try.prog (Try.f3.params.toList ++ Rows.fnExactAddNestSpec.plain.varTypes Try.prog) (ds ++ gs)).all (· ≤ reachBytes) = true := hsz0
  have hval : ∀ (j : Nat) t v, Try.f3.params[j]? = some t → args[j]? = some v → Value.okWide Try.prog W .any base t v := hval0
  have hW' := hW
  obtain ⟨p, q, hA0, hV, rfl, hfz, hnd⟩ := hW
  have hA : DataW.TrodAll enc Try.prog W 0 (fun _ => true) true Try.f3.params.toList args.toList ds p := hA0
  rw [Try.params3] at hA hval hsz
  obtain ⟨v0, vs0, d0, ds0, p0, q0, hargs, rfl, rfl, h0, r0⟩ := trodAll_cons hA
  obtain ⟨v1, vs1, d1, ds1, p1, q1, rfl, rfl, rfl, h1, r1⟩ := trodAll_cons r0
  obtain ⟨v2, vs2, d2, ds2, p2, q2, rfl, rfl, rfl, h2, r2⟩ := trodAll_cons r1
  obtain ⟨rfl, rfl, rfl⟩ := trodAll_nil r2
  obtain rfl : args = #[v0, v1, v2] := by cases args; simp_all
  obtain ⟨rfl, rfl⟩ := trodVars_none hV
  have b0 : ∀ m ∈ d0.weights Try.prog 22, m ≤ reachBytes := fun m hm => by simpa using List.all_eq_true.1 hsz m (DataW.weights_mem_each (j := 0) (t := 22) (d := d0) rfl rfl m hm)
  have e0 := h0
  have lt0 : ∀ x ∈ p0, x.block < W.heap.size := by obtain ⟨m, hm⟩ := e0; exact DataW.trod_lt m _ _ _ hm
  obtain ⟨a0, fit0, rel0⟩ : ∃ x : sem (.list S24), fitSh (.list S24) x ∧ ∀ n, Rel (G0 n (allOf W)) [] (.d (.list S24) x (Sh.flat (.list S24))) v0 := by
    obtain ⟨fuel, hf⟩ := h0
    exact arg_ok (by kernel_rfl) (hval 0 22 v0 rfl rfl) hf b0
  have b1 : ∀ m ∈ d1.weights Try.prog 23, m ≤ reachBytes := fun m hm => by simpa using List.all_eq_true.1 hsz m (DataW.weights_mem_each (j := 1) (t := 23) (d := d1) rfl rfl m hm)
  have e1 := h1
  have lt1 : ∀ x ∈ p1, x.block < W.heap.size := by obtain ⟨m, hm⟩ := e1; exact DataW.trod_lt m _ _ _ hm
  obtain ⟨a1, fit1, rel1⟩ : ∃ x : sem (.list S68), fitSh (.list S68) x ∧ ∀ n, Rel (G0 n (allOf W)) [] (.d (.list S68) x (Sh.flat (.list S68))) v1 := by
    obtain ⟨fuel, hf⟩ := h1
    exact arg_ok (by kernel_rfl) (hval 1 23 v1 rfl rfl) hf b1
  have b2 : ∀ m ∈ d2.weights Try.prog 25, m ≤ reachBytes := fun m hm => by simpa using List.all_eq_true.1 hsz m (DataW.weights_mem_each (j := 2) (t := 25) (d := d2) rfl rfl m hm)
  have e2 := h2
  have lt2 : ∀ x ∈ p2, x.block < W.heap.size := by obtain ⟨m, hm⟩ := e2; exact DataW.trod_lt m _ _ _ hm
  obtain ⟨a2, fit2, rel2⟩ : ∃ x : sem S24, fitSh S24 x ∧ ∀ n, Rel (G0 n (allOf W)) [] (.d S24 x (Sh.flat S24)) v2 := by
    obtain ⟨fuel, hf⟩ := h2
    exact arg_ok (by kernel_rfl) (hval 2 25 v2 rfl rfl) hf b2
  obtain ⟨k, hk⟩ := Pure.FnExactAddNest a0 a1 a2 fit0 fit1 fit2
  clear hA0 hval0 hsz0 hsz
  have rels : Rels (G0 W.heap.size (allOf W)) [] [.d (.list S24) a0 false, .d (.list S68) a1 false, .d S24 a2 true] [v0, v1, v2] := (Rels.cons (rel0 _) (Rels.cons (rel1 _) (Rels.cons (rel2 _) Rels.nil)))
  refine (Env.law E mixed sure plugs sorts (k := k) (f := 3) (xs0 := [.d (.list S24) a0 false, .d (.list S68) a1 false, .d S24 a2 true]) hk rfl single (w := W) (vs := #[v0, v1, v2]) rels).mono fun e W' ⟨he, bel⟩ => ?_
  subst he
  replace bel := bel.k
  exact ⟨_, rfl, _, _, _, [], _, [], hW', trodAll_mk1 (shut_bool Try.underlying4 _), (trodAll_cons_mk (Go.RowKit.Below.trod laidOut (by kernel_rfl) (of_decide_eq_true (by kernel_rfl)) e0 bel lt0) (trodAll_cons_mk (Go.RowKit.Below.trod laidOut (by kernel_rfl) (of_decide_eq_true (by kernel_rfl)) e1 bel lt1) (trodAll_cons_mk (Go.RowKit.Below.trod laidOut (by kernel_rfl) (of_decide_eq_true (by kernel_rfl)) e2 bel lt2) trodAll_mk0))), rfl, bel.frame _, fun h => by cases h⟩
theorem over : Rows.fnExactAddNestRow.holds Try.pinned (OpenSpec.ofChange Rows.fnExactAddNestSpec) :=
  OpenClaim.holds_of_wide 3 Try.f3 rfl rfl rfl rfl rfl rfl rfl ⟨rfl, rfl, rfl, rfl, rfl⟩ rfl rfl rfl rfl rfl (by kernel_rfl) Try.func3 (by kernel_rfl)
    (of_decide_eq_true (by kernel_rfl)) (by unfold Func.isWrapper; first | (rw [if_pos (by decide +kernel)]; kernel_rfl) | (rw [if_neg (by decide +kernel)]; exact ⟨rfl, rfl⟩))
    (fun os started H enc _ => lifted os started H enc)
theorem proved : Rows.FnExactAddNestSaid := over
#print axioms proved
end Go.Proofs.Ytacfnpnaeiagnab.fnExactAddNest
namespace Go.Proofs.Ytacfnpnaeiagnab
/-- The row, under a short name, for the claim. -/
theorem fnExactAddNest_holds : Rows.FnExactAddNestSaid := fnExactAddNest.proved
end Go.Proofs.Ytacfnpnaeiagnab
