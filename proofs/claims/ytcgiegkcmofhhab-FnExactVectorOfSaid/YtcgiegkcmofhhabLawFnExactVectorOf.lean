-- Written for this claim by a program of this session (mkrow.py).
import Derived.Test.YtcgiegkcmofhhabRows
import Derived.Test.YtcgiegkcmofhhabPureFnExactVectorOf
import Derived.WalkKit
import Derived.ProofKit
import Derived.OpenShut
import Derived.ShutString
import Derived.ChangeOld
import Derived.Below
import Derived.SizedLaws
namespace Go.Proofs.Ytcgiegkcmofhhab.fnExactVectorOf
open Go.ChangeShapes Go.WideShapes Go.ChangeAt Go.RowKit Go.Proofs.Ytcgiegkcmofhhab.PFnExactVectorOf Go.Proofs.YtcgiegkcmofhhabW.PrintWords Go.Proofs.YtcgiegkcmofhhabW.PrintLast Go.Proofs.YtcgiegkcmofhhabOpen
open Go.ChangeMaps (open_string shut_string)
set_option linter.unusedVariables false
theorem own : ownKnob Try.prog.godebug = none := by kernel_rfl
theorem laidOut : laidOutB Try.prog = true := by kernel_rfl
set_option maxHeartbeats 2000000 in
set_option maxRecDepth 100000 in
theorem lifted (os : Os) (started : os.Started) (H : Type) (enc : TypeId × Value → H) :
    ReturnsInHanded {} Try.checked os 6 .any (Rows.fnExactVectorOfSpec.pre6 enc Try.prog Try.f6 Rows.fnExactVectorOfRow.domain false) (Rows.fnExactVectorOfSpec.post enc Try.prog Try.f6 false true false false) := by
  refine returnsInHanded_of_change_sized (C := Try.checked) own started (by kernel_rfl) Try.func6
    (ChangeSpec.witness6 (enc := enc) (C := Try.checked) false ⟨#[], #[.slice none 0 0], []⟩ 8 (by kernel_rfl) (by kernel_rfl) (by kernel_rfl) (by kernel_rfl)) ?_
  intro W base args ds gs before hval0 hW hcnd hsz0 _
  have hsz : (DataW.weightsEach Try.prog (Try.f6.params.toList ++ Rows.fnExactVectorOfSpec.plain.varTypes Try.prog) (ds ++ gs)).all (· ≤ reachBytes) = true := hsz0
  have hval : ∀ (j : Nat) t v, Try.f6.params[j]? = some t → args[j]? = some v → Value.okWide Try.prog W .any base t v := hval0
  have hW' := hW
  obtain ⟨p, q, hA0, hV, rfl, hfz, hnd⟩ := hW
  have hA : DataW.TrodAll enc Try.prog W 0 (fun _ => true) true Try.f6.params.toList args.toList ds p := hA0
  rw [Try.params6] at hA hval hsz
  obtain ⟨v0, vs0, d0, ds0, p0, q0, hargs, rfl, rfl, h0, r0⟩ := trodAll_cons hA
  obtain ⟨rfl, rfl, rfl⟩ := trodAll_nil r0
  obtain rfl : args = #[v0] := by cases args; simp_all
  obtain ⟨rfl, rfl⟩ := trodVars_none hV
  have b0 : ∀ m ∈ d0.weights Try.prog 22, m ≤ reachBytes := fun m hm => by simpa using List.all_eq_true.1 hsz m (DataW.weights_mem_each (j := 0) (t := 22) (d := d0) rfl rfl m hm)
  obtain ⟨aa0, len0, cap0, rfl⟩ := okWide_slice Try.underlying22 (hval 0 22 v0 rfl rfl)
  have e0 := h0
  have lt0 : ∀ x ∈ p0, x.block < W.heap.size := by obtain ⟨m, hm⟩ := e0; exact DataW.trod_lt m _ _ _ hm
  obtain ⟨l0, A0, c0, eq0, lc0, g0, fit0⟩ : ∃ (l : (List S91)) (A : Option Addr) (c : Nat), (Value.slice aa0 len0 cap0) = .slice A l.length c ∧ l.length ≤ c ∧ k91.C W A l.length l ∧ FitS 104 fit91 l := by
    obtain ⟨fuel, hf⟩ := h0
    obtain ⟨l, ⟨A, c, he, hl, hc⟩, hF⟩ := (Opens.slice (e' := 91) Try.underlying22 (by kernel_rfl) (by kernel_rfl) opens91) enc W 0 _ true fuel _ _ _ hf b0
    simp [Value.cells] at he
    obtain ⟨rfl, rfl, rfl⟩ := he
    exact ⟨l, aa0, cap0, rfl, hl, hc, hF⟩
  simp only [Value.slice.injEq] at eq0
  obtain ⟨rfl, rfl, rfl⟩ := eq0
  obtain ⟨k, hk⟩ := Pure.FnExactVectorOf l0 fit0
  clear hA0 hval0 hsz0 hsz
  refine (laws_FnExactVectorOf.calls (k := k) (A0 := aa0) (c0 := cap0) (l0 := l0) (hr0 := g0) (hc0 := lc0) (r := true) (w := W) (h := hk)).mono fun e W' ⟨he, bel⟩ => ?_
  subst he
  exact ⟨_, rfl, _, _, _, [], _, [], hW', trodAll_mk1 (shut_bool Try.underlying4 _), (trodAll_cons_mk (Below.trod laidOut (by kernel_rfl) (of_decide_eq_true (by kernel_rfl)) e0 bel lt0) trodAll_mk0), rfl, bel.frame _, fun h => by cases h⟩
theorem over : Rows.fnExactVectorOfRow.holds Try.pinned (OpenSpec.ofChange Rows.fnExactVectorOfSpec) :=
  OpenClaim.holds_of_wide 6 Try.f6 rfl rfl rfl rfl rfl rfl rfl ⟨rfl, rfl, rfl, rfl, rfl⟩ rfl rfl rfl rfl rfl (by kernel_rfl) Try.func6 (by kernel_rfl)
    (of_decide_eq_true (by kernel_rfl)) (by unfold Func.isWrapper; first | (rw [if_pos (by decide +kernel)]; kernel_rfl) | (rw [if_neg (by decide +kernel)]; exact ⟨rfl, rfl⟩))
    (fun os started H enc _ => lifted os started H enc)
theorem proved : Rows.FnExactVectorOfSaid := over
#print axioms proved
end Go.Proofs.Ytcgiegkcmofhhab.fnExactVectorOf
namespace Go.Proofs.Ytcgiegkcmofhhab
/-- The row, under a short name, for the claim. -/
theorem fnExactVectorOf_holds : Rows.FnExactVectorOfSaid := fnExactVectorOf.proved
end Go.Proofs.Ytcgiegkcmofhhab
