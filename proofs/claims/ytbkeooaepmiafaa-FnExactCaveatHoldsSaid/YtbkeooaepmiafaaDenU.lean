import Derived.Test.YtbkeooaepmiafaaDenR
namespace Go.Den
open Go.RowKit (Below wrap64)
set_option linter.unusedVariables false
set_option linter.unusedSimpArgs false
/-! A function, as it is read off its code, is what a call of it gives. -/
theorem den_ok {F : Fun} {fn : Func} {c : Code} (hfn : F.prog.funcs[F.fn]? = some fn) (hb : fn.body = some c) {Φ : Nat → Nat → List AV → (τ : Sh) → Option (sem τ)}
    (hΦ : ∀ f, Sound F.prog f (Φ f) (F.frs.contains f)) (hmix : F.prog.follows .mixedOrders = true) {w0 : Ent} (h0 : ∀ b o v, w0.fz b o = some v → w0.w.cell? ⟨b, o, none⟩ = some v) {τ : Sh} {r : sem τ} :
    ∀ (k l : Nat), Next w0 r (F.den Φ τ k l) (ptWp F.prog c 0 (bodyPost F.prog fn (Post F.prog F.fn w0 F.wantFresh τ r)) l)
  | 0, l => fun g σ a w hE hW h => by simp [Fun.den] at h
  | k + 1, l => fun g σ a w hE hW h => by
    simp only [Fun.den, hfn, hb] at h
    have hret : ∀ Q : Exit, Q = .normal ∨ Q = .ret → Next w0 r (retK F fn τ) (bodyPost F.prog fn (Post F.prog F.fn w0 F.wantFresh τ r) Q) := fun Q hQ g σ a w hE hW h => by
      have := retK_ok hfn h0 h hE hW
      rcases hQ with rfl | rfl <;> exact this
    exact denAt_ok hΦ hmix c 0 _ _ _ _ (fun l _ _ => den_ok hfn hb hΦ hmix h0 k l) (hret .normal (.inl rfl)) (fun i g σ a w _ _ h => by cases h) (hret .ret (.inr rfl)) h hE hW
theorem Fun.sound (F : Fun) {fn : Func} {c : Code} (hfn : F.prog.funcs[F.fn]? = some fn) (hname : (fn.name == "runtime.NumGoroutine") = false) (hb : fn.body = some c) {Φ : Nat → Nat → List AV → (τ : Sh) → Option (sem τ)}
    (hΦ : ∀ f, Sound F.prog f (Φ f) (F.frs.contains f)) (hmix : F.prog.follows .mixedOrders = true) : Sound F.prog F.fn (fun k => F.run Φ k) F.wantFresh := by
  intro k as τ r h
  refine ⟨fun args w => Go.MuLone.run_callFunc_enter hfn hname hb args w, fun w vs fz hfz hrel => ?_⟩
  simp only [Fun.run, hfn, hb] at h
  refine (calls_of_wp hfn hb (R := Post F.prog F.fn ⟨w, fz⟩ F.wantFresh τ r) ?_).mono (fun e w' hp => hp)
  have hlen := hrel.length
  have hE : EnvR (G0 w.heap.size fz) ⟨as ++ List.replicate (fn.ntmps - as.length) .undef, []⟩ { tmps := vs ++ Array.replicate (fn.ntmps - vs.size) undef, defers := [] } := by
    refine ⟨?_, rfl⟩
    rw [Array.toList_append, Array.toList_replicate]
    rw [show fn.ntmps - vs.size = fn.ntmps - as.length by rw [← hlen]; simp]
    exact Rels.append hrel (Rels.undefs undef _)
  have hW : WF ⟨w, fz⟩ (G0 w.heap.size fz) [] w := ⟨rfl, fun b o v hv => .inl hv, Below.refl _ _, Nat.le_refl _, hfz, (fun b o v hv => by cases hv), (fun i o hi => by simp at hi), (fun i o b hi => by simp at hi)⟩
  have hret : ∀ Q : Exit, Q = .normal ∨ Q = .ret → Next ⟨w, fz⟩ r (retK F fn τ) (bodyPost F.prog fn (Post F.prog F.fn ⟨w, fz⟩ F.wantFresh τ r) Q) := fun Q hQ g σ a w hE hW h => by
    have := retK_ok hfn hfz h hE hW
    rcases hQ with rfl | rfl <;> exact this
  exact denC_ok hΦ hmix c 0 _ _ _ _ (fun l _ _ => den_ok hfn hb hΦ hmix hfz k l) (hret .normal (.inl rfl)) (fun i g σ a w _ _ h => by cases h) (hret .ret (.inr rfl)) h hE hW
/-- a function that calls itself: the rounds count the depth as well -/
def Fun.self (F : Fun) (Φ : Nat → Nat → List AV → (τ : Sh) → Option (sem τ)) : Nat → List AV → (τ : Sh) → Option (sem τ)
  | 0 => fun _ _ => none
  | k + 1 => fun as τ => F.run (fun f j => if f = F.fn then Fun.self F Φ k else Φ f j) k as τ
theorem Fun.self_sound (F : Fun) {fn : Func} {c : Code} (hfn : F.prog.funcs[F.fn]? = some fn) (hname : (fn.name == "runtime.NumGoroutine") = false) (hb : fn.body = some c) {Φ : Nat → Nat → List AV → (τ : Sh) → Option (sem τ)}
    (hΦ : ∀ f, f ≠ F.fn → Sound F.prog f (Φ f) (F.frs.contains f)) (hmix : F.prog.follows .mixedOrders = true) (hfr : F.frs.contains F.fn = F.wantFresh) : Sound F.prog F.fn (fun k => F.self Φ k) F.wantFresh := by
  have key : ∀ k, Sound F.prog F.fn (fun _ => F.self Φ k) F.wantFresh := by
    intro k
    induction k with
    | zero => intro _ as τ r h; simp [Fun.self] at h
    | succ k ih =>
      have := F.sound hfn hname hb (Φ := fun f j => if f = F.fn then F.self Φ k else Φ f j) (fun f => by
        by_cases e : f = F.fn
        · subst e
          simp only [if_true]
          rw [hfr]; exact ih
        · simp only [e, if_false]; exact hΦ f e) hmix
      intro _ as τ r h
      exact this k as τ r h
  intro k as τ r h
  exact key k 0 as τ r h
/-- nothing is said of a function that is not in the table -/
theorem Sound.none (P : Program) (f : Nat) (b : Bool) : Sound P f (fun _ _ _ => none) b := fun _ _ _ _ h => by cases h
/-! #### the table of callees -/
abbrev Tab := List (Nat × (Nat → List AV → (τ : Sh) → Option (sem τ)))
def Tab.get : Tab → Nat → Nat → List AV → (τ : Sh) → Option (sem τ)
  | [], _, _, _, _ => none
  | (f, F) :: t, g, k, as, τ => if g = f then F k as τ else Tab.get t g k as τ
def Tab.Ok (P : Program) (frs : List Nat) : Tab → Prop
  | [] => True
  | (f, F) :: t => Sound P f F (frs.contains f) ∧ Tab.Ok P frs t
theorem Tab.sound {P : Program} {frs : List Nat} : ∀ {t : Tab}, t.Ok P frs → ∀ f, Sound P f (t.get f) (frs.contains f)
  | [], _, f => Sound.none P f _
  | (f, F) :: t, h, g => by
    by_cases e : g = f
    · subst e
      have : Tab.get ((g, F) :: t) g = F := by funext k as τ; simp [Tab.get]
      rw [this]; exact h.1
    · have : Tab.get ((f, F) :: t) g = Tab.get t g := by funext k as τ; simp [Tab.get, e]
      rw [this]; exact Tab.sound h.2 g
end Go.Den
