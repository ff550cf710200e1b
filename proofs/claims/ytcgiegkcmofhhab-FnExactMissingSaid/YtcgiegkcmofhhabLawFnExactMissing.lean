-- Written for this claim by a program of this session (mkrow.py).
import Derived.Test.YtcgiegkcmofhhabRows
import Derived.Test.YtcgiegkcmofhhabPureFnExactMissing
import Derived.WalkKit
import Derived.ProofKit
import Derived.OpenShut
import Derived.ShutString
import Derived.ChangeOld
import Derived.Below
import Derived.SizedLaws
namespace Go.Proofs.Ytcgiegkcmofhhab.fnExactMissing
open Go.ChangeShapes Go.WideShapes Go.ChangeAt Go.RowKit Go.Proofs.Ytcgiegkcmofhhab.PFnExactMissing Go.Proofs.YtcgiegkcmofhhabW.PrintWords Go.Proofs.YtcgiegkcmofhhabW.PrintLast Go.Proofs.YtcgiegkcmofhhabOpen
open Go.ChangeMaps (open_string shut_string)
set_option linter.unusedVariables false
theorem own : ownKnob Try.prog.godebug = none := by kernel_rfl
theorem laidOut : laidOutB Try.prog = true := by kernel_rfl
set_option maxHeartbeats 2000000 in
set_option maxRecDepth 100000 in
theorem lifted (os : Os) (started : os.Started) (H : Type) (enc : TypeId × Value → H) :
    ReturnsInHanded {} Try.checked os 7 .any (Rows.fnExactMissingSpec.pre6 enc Try.prog Try.f7 Rows.fnExactMissingRow.domain false) (Rows.fnExactMissingSpec.post enc Try.prog Try.f7 false true false false) := by
  refine returnsInHanded_of_change_sized (C := Try.checked) own started (by kernel_rfl) Try.func7
    (ChangeSpec.witness6 (enc := enc) (C := Try.checked) false ⟨#[], #[.slice none 0 0, .slice none 0 0], []⟩ 8 (by kernel_rfl) (by kernel_rfl) (by kernel_rfl) (by kernel_rfl)) ?_
  intro W base args ds gs before hval0 hW hcnd hsz0 _
  have hsz : (DataW.weightsEach Try.prog (Try.f7.params.toList ++ Rows.fnExactMissingSpec.plain.varTypes Try.prog) (ds ++ gs)).all (· ≤ reachBytes) = true := hsz0
  have hval : ∀ (j : Nat) t v, Try.f7.params[j]? = some t → args[j]? = some v → Value.okWide Try.prog W .any base t v := hval0
  have hW' := hW
  obtain ⟨p, q, hA0, hV, rfl, hfz, hnd⟩ := hW
  have hA : DataW.TrodAll enc Try.prog W 0 (fun _ => true) true Try.f7.params.toList args.toList ds p := hA0
  rw [Try.params7] at hA hval hsz
  obtain ⟨v0, vs0, d0, ds0, p0, q0, hargs, rfl, rfl, h0, r0⟩ := trodAll_cons hA
  obtain ⟨v1, vs1, d1, ds1, p1, q1, rfl, rfl, rfl, h1, r1⟩ := trodAll_cons r0
  obtain ⟨rfl, rfl, rfl⟩ := trodAll_nil r1
  obtain rfl : args = #[v0, v1] := by cases args; simp_all
  obtain ⟨rfl, rfl⟩ := trodVars_none hV
  have b0 : ∀ m ∈ d0.weights Try.prog 22, m ≤ reachBytes := fun m hm => by simpa using List.all_eq_true.1 hsz m (DataW.weights_mem_each (j := 0) (t := 22) (d := d0) rfl rfl m hm)
  obtain ⟨aa0, len0, cap0, rfl⟩ := okWide_slice Try.underlying22 (hval 0 22 v0 rfl rfl)
  have e0 := h0
  have lt0 : ∀ x ∈ p0, x.block < W.heap.size := by obtain ⟨m, hm⟩ := e0; exact DataW.trod_lt m _ _ _ hm
  obtain ⟨l0, A0, c0, eq0, lc0, g0, fit0⟩ : ∃ (l : (List S91)) (A : Option Addr) (c : Nat), (Value.slice aa0 len0 cap0) = .slice A l.length c ∧ l.length ≤ c ∧ k91.C W A l.length l ∧ FitS 104 fit91 l := by
    obtain ⟨fuel, hf⟩ := h0
    obtain ⟨l, ⟨A, c, he, hl, hc⟩, hF⟩ := (Opens.slice (e' := 91) Try.underlying22 (by kernel_rfl) (by kernel_rfl) opens91) enc W 0 _ true fuel _ _ _ hf b0
    simp [Value.cells] at he
    obtain ⟨rfl, rfl, rfl⟩ := he
    exact ⟨l, aa0, cap0, rfl, hl, hc, hF⟩
  simp only [Value.slice.injEq] at eq0
  obtain ⟨rfl, rfl, rfl⟩ := eq0
  have b1 : ∀ m ∈ d1.weights Try.prog 57, m ≤ reachBytes := fun m hm => by simpa using List.all_eq_true.1 hsz m (DataW.weights_mem_each (j := 1) (t := 57) (d := d1) rfl rfl m hm)
  obtain ⟨aa1, len1, cap1, rfl⟩ := okWide_slice Try.underlying57 (hval 1 57 v1 rfl rfl)
  have e1 := h1
  have lt1 : ∀ x ∈ p1, x.block < W.heap.size := by obtain ⟨m, hm⟩ := e1; exact DataW.trod_lt m _ _ _ hm
  obtain ⟨l1, A1, c1, eq1, lc1, g1, fit1⟩ : ∃ (l : (List S87)) (A : Option Addr) (c : Nat), (Value.slice aa1 len1 cap1) = .slice A l.length c ∧ l.length ≤ c ∧ k87.C W A l.length l ∧ FitS 16 fit87 l := by
    obtain ⟨fuel, hf⟩ := h1
    obtain ⟨l, ⟨A, c, he, hl, hc⟩, hF⟩ := (Opens.slice (e' := 87) Try.underlying57 (by kernel_rfl) (by kernel_rfl) opens87) enc W 0 _ true fuel _ _ _ hf b1
    simp [Value.cells] at he
    obtain ⟨rfl, rfl, rfl⟩ := he
    exact ⟨l, aa1, cap1, rfl, hl, hc, hF⟩
  simp only [Value.slice.injEq] at eq1
  obtain ⟨rfl, rfl, rfl⟩ := eq1
  obtain ⟨k, hk⟩ := Pure.FnExactMissing l0 l1 fit0 fit1
  clear hA0 hval0 hsz0 hsz
  refine (laws_FnExactMissing.calls (k := k) (A0 := aa0) (c0 := cap0) (l0 := l0) (A1 := aa1) (c1 := cap1) (l1 := l1) (hr0 := g0) (hc0 := lc0) (hr1 := g1) (hc1 := lc1) (r := true) (w := W) (h := hk)).mono fun e W' ⟨he, bel⟩ => ?_
  subst he
  exact ⟨_, rfl, _, _, _, [], _, [], hW', trodAll_mk1 (shut_bool Try.underlying4 _), (trodAll_cons_mk (Below.trod laidOut (by kernel_rfl) (of_decide_eq_true (by kernel_rfl)) e0 bel lt0) (trodAll_cons_mk (Below.trod laidOut (by kernel_rfl) (of_decide_eq_true (by kernel_rfl)) e1 bel lt1) trodAll_mk0)), rfl, bel.frame _, fun h => by cases h⟩
theorem over : Rows.fnExactMissingRow.holds Try.pinned (OpenSpec.ofChange Rows.fnExactMissingSpec) :=
  OpenClaim.holds_of_wide 7 Try.f7 rfl rfl rfl rfl rfl rfl rfl ⟨rfl, rfl, rfl, rfl, rfl⟩ rfl rfl rfl rfl rfl (by kernel_rfl) Try.func7 (by kernel_rfl)
    (of_decide_eq_true (by kernel_rfl)) (by unfold Func.isWrapper; first | (rw [if_pos (by decide +kernel)]; kernel_rfl) | (rw [if_neg (by decide +kernel)]; exact ⟨rfl, rfl⟩))
    (fun os started H enc _ => lifted os started H enc)
theorem proved : Rows.FnExactMissingSaid := over
#print axioms proved
end Go.Proofs.Ytcgiegkcmofhhab.fnExactMissing
namespace Go.Proofs.Ytcgiegkcmofhhab
/-- The row, under a short name, for the claim. -/
theorem fnExactMissing_holds : Rows.FnExactMissingSaid := fnExactMissing.proved
end Go.Proofs.Ytcgiegkcmofhhab
