-- Written for this claim by a program of this session (mkrow.py).
import Derived.Test.YtcgiegkcmofhhaaRows
import Derived.Test.YtcgiegkcmofhhaaPureFnExactGoodValue
import Derived.WalkKit
import Derived.ProofKit
import Derived.OpenShut
import Derived.ShutString
import Derived.ChangeOld
import Derived.Below
import Derived.SizedLaws
namespace Go.Proofs.Ytcgiegkcmofhhaa.fnExactGoodValue
open Go.ChangeShapes Go.WideShapes Go.ChangeAt Go.RowKit Go.Proofs.Ytcgiegkcmofhhaa.PFnExactGoodValue Go.Proofs.YtcgiegkcmofhhaaW.PrintWords Go.Proofs.YtcgiegkcmofhhaaW.PrintLast Go.Proofs.YtcgiegkcmofhhaaOpen
open Go.ChangeMaps (open_string shut_string)
set_option linter.unusedVariables false
theorem own : ownKnob Try.prog.godebug = none := by kernel_rfl
theorem laidOut : laidOutB Try.prog = true := by kernel_rfl
set_option maxHeartbeats 2000000 in
set_option maxRecDepth 100000 in
theorem lifted (os : Os) (started : os.Started) (H : Type) (enc : TypeId × Value → H) :
    ReturnsInHanded {} Try.checked os 6 .any (Rows.fnExactGoodValueSpec.pre6 enc Try.prog Try.f6 Rows.fnExactGoodValueRow.domain false) (Rows.fnExactGoodValueSpec.post enc Try.prog Try.f6 false true false false) := by
  refine returnsInHanded_of_change_sized (C := Try.checked) own started (by kernel_rfl) Try.func6
    (ChangeSpec.witness6 (enc := enc) (C := Try.checked) false ⟨#[], #[.agg #[.int .i64 0, .int .i64 0, .int .i64 0, .string ByteArray.empty, .string ByteArray.empty, .slice none 0 0, .slice none 0 0]], []⟩ 8 (by kernel_rfl) (by kernel_rfl) (by kernel_rfl) (by kernel_rfl)) ?_
  intro W base args ds gs before hval0 hW hcnd hsz0 _
  have hsz : (DataW.weightsEach Try.prog (Try.f6.params.toList ++ Rows.fnExactGoodValueSpec.plain.varTypes Try.prog) (ds ++ gs)).all (· ≤ reachBytes) = true := hsz0
  have hval : ∀ (j : Nat) t v, Try.f6.params[j]? = some t → args[j]? = some v → Value.okWide Try.prog W .any base t v := hval0
  have hW' := hW
  obtain ⟨p, q, hA0, hV, rfl, hfz, hnd⟩ := hW
  have hA : DataW.TrodAll enc Try.prog W 0 (fun _ => true) true Try.f6.params.toList args.toList ds p := hA0
  rw [Try.params6] at hA hval hsz
  obtain ⟨v0, vs0, d0, ds0, p0, q0, hargs, rfl, rfl, h0, r0⟩ := trodAll_cons hA
  obtain ⟨rfl, rfl, rfl⟩ := trodAll_nil r0
  obtain rfl : args = #[v0] := by cases args; simp_all
  obtain ⟨rfl, rfl⟩ := trodVars_none hV
  have b0 : ∀ m ∈ d0.weights Try.prog 57, m ≤ reachBytes := fun m hm => by simpa using List.all_eq_true.1 hsz m (DataW.weights_mem_each (j := 0) (t := 57) (d := d0) rfl rfl m hm)
  obtain ⟨⟨cl0⟩, rfl, _⟩ := okWide_struct Try.underlying57 (hval 0 57 v0 rfl rfl)
  have e0 := h0
  have lt0 : ∀ x ∈ p0, x.block < W.heap.size := by obtain ⟨m, hm⟩ := e0; exact DataW.trod_lt m _ _ _ hm
  obtain ⟨x0, K0, fit0⟩ : ∃ x : S57, k57.K W x cl0 ∧ fit57 x := by
    obtain ⟨fuel, hf⟩ := h0
    exact opens57 enc W 0 _ true fuel _ _ _ hf b0
  obtain ⟨_, _, rfl, rfl, ⟨_, _, rfl, ⟨_, _, rfl, rfl, ⟨_, _, rfl, rfl, ⟨_, _, rfl, rfl, rfl⟩⟩⟩, ⟨_, _, rfl, ⟨A0_5, c0_5, rfl, lc0_5, g0_5⟩, ⟨A0_6, c0_6, rfl, lc0_6, g0_6⟩⟩⟩⟩ := K0
  obtain ⟨k, hk⟩ := Pure.FnExactGoodValue x0 fit0
  clear hA0 hval0 hsz0 hsz
  refine (laws_FnExactGoodValue.calls (k := k) (a0_0 := x0.f0) (a0_1 := x0.f1.f0) (a0_2 := x0.f1.f1) (a0_3 := x0.f1.f2) (a0_4 := x0.f1.f3) (A0_5 := A0_5) (c0_5 := c0_5) (l0_5 := x0.f2) (A0_6 := A0_6) (c0_6 := c0_6) (l0_6 := x0.f3) (hr0_5 := g0_5) (hc0_5 := lc0_5) (hr0_6 := g0_6) (hc0_6 := lc0_6) (r := true) (w := W) (h := hk)).mono fun e W' ⟨he, bel⟩ => ?_
  subst he
  exact ⟨_, rfl, _, _, _, [], _, [], hW', trodAll_mk1 (shut_bool Try.underlying4 _), (trodAll_cons_mk (Below.trod laidOut (by kernel_rfl) (of_decide_eq_true (by kernel_rfl)) e0 bel lt0) trodAll_mk0), rfl, bel.frame _, fun h => by cases h⟩
theorem over : Rows.fnExactGoodValueRow.holds Try.pinned (OpenSpec.ofChange Rows.fnExactGoodValueSpec) :=
  OpenClaim.holds_of_wide 6 Try.f6 rfl rfl rfl rfl rfl rfl rfl ⟨rfl, rfl, rfl, rfl, rfl⟩ rfl rfl rfl rfl rfl (by kernel_rfl) Try.func6 (by kernel_rfl)
    (of_decide_eq_true (by kernel_rfl)) (by unfold Func.isWrapper; first | (rw [if_pos (by decide +kernel)]; kernel_rfl) | (rw [if_neg (by decide +kernel)]; exact ⟨rfl, rfl⟩))
    (fun os started H enc _ => lifted os started H enc)
theorem proved : Rows.FnExactGoodValueSaid := over
#print axioms proved
end Go.Proofs.Ytcgiegkcmofhhaa.fnExactGoodValue
namespace Go.Proofs.Ytcgiegkcmofhhaa
/-- The row, under a short name, for the claim. -/
theorem fnExactGoodValue_holds : Rows.FnExactGoodValueSaid := fnExactGoodValue.proved
end Go.Proofs.Ytcgiegkcmofhhaa
