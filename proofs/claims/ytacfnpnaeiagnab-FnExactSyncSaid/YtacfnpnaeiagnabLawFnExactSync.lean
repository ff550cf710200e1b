-- Written for this claim by a program of this session (mklaw.py).
import Derived.Test.YtacfnpnaeiagnabRows
import Derived.Test.YtacfnpnaeiagnabPureFnExactSync
import Derived.Test.YtacfnpnaeiagnabInsY
import Derived.WalkKit
import Derived.ProofKit
import Derived.OpenShut
import Derived.ShutString
import Derived.ChangeOld
import Derived.Below
import Derived.SizedLaws
namespace Go.Proofs.Ytacfnpnaeiagnab.fnExactSync
open Go.ChangeShapes Go.WideShapes Go.ChangeAt Go.RowKit Go.Den Go.Proofs.Ytacfnpnaeiagnab.PY
open Go.ChangeMaps (open_string shut_string)
set_option linter.unusedVariables false
theorem own : ownKnob Try.prog.godebug = none := by kernel_rfl
theorem laidOut : laidOutB Try.prog = true := by kernel_rfl
theorem mixed : Try.prog.follows .mixedOrders = true := by kernel_rfl
theorem sure : E.ok = true := by kernel_rfl
theorem single : retTup E.prog 5 = false := by kernel_rfl
set_option maxHeartbeats 2000000 in
set_option maxRecDepth 100000 in
theorem lifted (os : Os) (started : os.Started) (H : Type) (enc : TypeId × Value → H) :
    ReturnsInHanded {} Try.checked os 5 .any (Rows.fnExactSyncSpec.pre6 enc Try.prog Try.f5 Rows.fnExactSyncRow.domain false) (Rows.fnExactSyncSpec.post enc Try.prog Try.f5 false true false false) := by
  refine returnsInHanded_of_change_sized (C := Try.checked) own started (by kernel_rfl) Try.func5
    (ChangeSpec.witness6 (enc := enc) (C := Try.checked) false ⟨#[], #[.slice none 0 0, .slice none 0 0], []⟩ 8 (by kernel_rfl) (by kernel_rfl) (by kernel_rfl) (by kernel_rfl)) ?_
  intro W base args ds gs before hval0 hW hcnd hsz0 _
  have hsz : (DataW.weightsEach Try.prog (Try.f5.params.toList ++ Rows.fnExactSyncSpec.plain.varTypes Try.prog) (ds ++ gs)).all (· ≤ reachBytes) = true := hsz0
  have hval : ∀ (j : Nat) t v, Try.f5.params[j]? = some t → args[j]? = some v → Value.okWide Try.prog W .any base t v := hval0
  have hW' := hW
  obtain ⟨p, q, hA0, hV, rfl, hfz, hnd⟩ := hW
  have hA : DataW.TrodAll enc Try.prog W 0 (fun _ => true) true Try.f5.params.toList args.toList ds p := hA0
  rw [Try.params5] at hA hval hsz
  obtain ⟨v0, vs0, d0, ds0, p0, q0, hargs, rfl, rfl, h0, r0⟩ := trodAll_cons hA
  obtain ⟨v1, vs1, d1, ds1, p1, q1, rfl, rfl, rfl, h1, r1⟩ := trodAll_cons r0
  obtain ⟨rfl, rfl, rfl⟩ := trodAll_nil r1
  obtain rfl : args = #[v0, v1] := by cases args; simp_all
  obtain ⟨rfl, rfl⟩ := trodVars_none hV
  have b0 : ∀ m ∈ d0.weights Try.prog 42, m ≤ reachBytes := fun m hm => by simpa using List.all_eq_true.1 hsz m (DataW.weights_mem_each (j := 0) (t := 42) (d := d0) rfl rfl m hm)
  have e0 := h0
  have lt0 : ∀ x ∈ p0, x.block < W.heap.size := by obtain ⟨m, hm⟩ := e0; exact DataW.trod_lt m _ _ _ hm
  obtain ⟨a0, fit0, rel0⟩ : ∃ x : sem (.list S89), fitSh (.list S89) x ∧ ∀ n, Rel (G0 n (allOf W)) [] (.d (.list S89) x (Sh.flat (.list S89))) v0 := by
    obtain ⟨fuel, hf⟩ := h0
    exact arg_ok (by kernel_rfl) (hval 0 42 v0 rfl rfl) hf b0
  have b1 : ∀ m ∈ d1.weights Try.prog 42, m ≤ reachBytes := fun m hm => by simpa using List.all_eq_true.1 hsz m (DataW.weights_mem_each (j := 1) (t := 42) (d := d1) rfl rfl m hm)
  have e1 := h1
  have lt1 : ∀ x ∈ p1, x.block < W.heap.size := by obtain ⟨m, hm⟩ := e1; exact DataW.trod_lt m _ _ _ hm
  obtain ⟨a1, fit1, rel1⟩ : ∃ x : sem (.list S89), fitSh (.list S89) x ∧ ∀ n, Rel (G0 n (allOf W)) [] (.d (.list S89) x (Sh.flat (.list S89))) v1 := by
    obtain ⟨fuel, hf⟩ := h1
    exact arg_ok (by kernel_rfl) (hval 1 42 v1 rfl rfl) hf b1
  obtain ⟨k, hk⟩ := Pure.FnExactSync a0 a1 fit0 fit1
  clear hA0 hval0 hsz0 hsz
  have rels : Rels (G0 W.heap.size (allOf W)) [] [.d (.list S89) a0 false, .d (.list S89) a1 false] [v0, v1] := (Rels.cons (rel0 _) (Rels.cons (rel1 _) Rels.nil))
  refine (Env.law E mixed sure plugs trivial (k := k) (f := 5) (xs0 := [.d (.list S89) a0 false, .d (.list S89) a1 false]) hk rfl single (w := W) (vs := #[v0, v1]) rels).mono fun e W' ⟨he, bel⟩ => ?_
  subst he
  replace bel := bel.k
  exact ⟨_, rfl, _, _, _, [], _, [], hW', trodAll_mk1 (shut_bool Try.underlying4 _), (trodAll_cons_mk (Go.RowKit.Below.trod laidOut (by kernel_rfl) (of_decide_eq_true (by kernel_rfl)) e0 bel lt0) (trodAll_cons_mk (Go.RowKit.Below.trod laidOut (by kernel_rfl) (of_decide_eq_true (by kernel_rfl)) e1 bel lt1) trodAll_mk0)), rfl, bel.frame _, fun h => by cases h⟩
theorem over : Rows.fnExactSyncRow.holds Try.pinned (OpenSpec.ofChange Rows.fnExactSyncSpec) :=
  OpenClaim.holds_of_wide 5 Try.f5 rfl rfl rfl rfl rfl rfl rfl ⟨rfl, rfl, rfl, rfl, rfl⟩ rfl rfl rfl rfl rfl (by kernel_rfl) Try.func5 (by kernel_rfl)
    (of_decide_eq_true (by kernel_rfl)) (by unfold Func.isWrapper; first | (rw [if_pos (by decide +kernel)]; kernel_rfl) | (rw [if_neg (by decide +kernel)]; exact ⟨rfl, rfl⟩))
    (fun os started H enc _ => lifted os started H enc)
theorem proved : Rows.FnExactSyncSaid := over
#print axioms proved
end Go.Proofs.Ytacfnpnaeiagnab.fnExactSync
namespace Go.Proofs.Ytacfnpnaeiagnab
/-- The row, under a short name, for the claim. -/
theorem fnExactSync_holds : Rows.FnExactSyncSaid := fnExactSync.proved
end Go.Proofs.Ytacfnpnaeiagnab
