import Derived.Test.YtaejbcahfnlggaaDoorDenI
namespace Go.Den
open Go.RowKit (wrap64)
set_option linter.unusedVariables false
set_option linter.unusedSimpArgs false
/-! Words for the operations that make or write memory. -/
theorem valsAV_one : ∀ (l : List Value) (as : List AV), valsAV l = some as → ∀ u ∈ l, u.oneCell' = true
  | [], _, _ => by simp
  | v :: l, as, h => by
    intro u hu
    unfold valsAV at h
    split at h
    · rename_i q1 q2 e1 e2
      rcases List.mem_cons.1 hu with rfl | hu
      · unfold valAV at e1
        split at e1 <;> first | rfl | (cases e1; done)
      · exact valsAV_one l _ e2 u hu
    · cases h
theorem setVals_eq : ∀ (vs cs : List Value) (off : Nat), off + vs.length ≤ cs.length → setVals cs off vs = cs.take off ++ vs ++ cs.drop (off + vs.length)
  | [], cs, off, h => by simp [setVals]
  | v :: vs, cs, off, h => by
    have hlt : off < cs.length := by simp at h; omega
    rw [setVals, setVals_eq vs (cs.set off v) (off + 1) (by simp at h ⊢; omega)]
    rw [List.take_set, List.drop_set]
    have e1 : (cs.take (off + 1)).set off v = cs.take off ++ [v] := by
      apply List.ext_getElem?
      intro j
      by_cases hj : j = off
      · subst hj
        rw [List.getElem?_set_self (by simp; omega), List.getElem?_append_right (by simp; omega)]
        simp [Nat.min_eq_left (Nat.le_of_lt hlt)]
      · rw [List.getElem?_set_ne (fun q => hj q.symm)]
        by_cases hj2 : j < off
        · rw [List.getElem?_append_left (by simp; omega), List.getElem?_take, List.getElem?_take]
          simp [hj2, show j < off + 1 by omega]
        · rw [List.getElem?_take, if_neg (by omega), List.getElem?_append_right (by simp; omega)]
          simp [Nat.min_eq_left (Nat.le_of_lt hlt)]
          omega
    rw [e1, if_pos (by omega)]
    simp [Nat.add_assoc, Nat.add_comm 1]
theorem setVals_app (done rest vs : List Value) (h : vs.length ≤ rest.length) : setVals (done ++ rest) done.length vs = done ++ vs ++ rest.drop vs.length := by
  rw [setVals_eq vs (done ++ rest) done.length (by simp; omega)]
  simp [List.take_append, List.drop_append]
theorem RepV.cells {fz : Fz} {t : Sh} {x : sem t} {v : Value} (h : RepV fz t x v) : RepC fz t x v.cells.toList := by
  unfold RepV at h
  split at h
  · obtain ⟨vs, rfl, hc⟩ := h; exact hc
  · rw [cells_one (RepC.one _ _ _ h v (by simp))]; exact h
theorem elemOk_some {P : Program} {e : TypeId} {s : Sh} (h : elemOk P e s = true) : ∃ i z, P.info? e = some i ∧ i.zero = some z ∧ i.size = s.size ∧ z.cells.size = s.size ∧ 0 < s.size ∧ ∀ fz, RepC fz s (dflt s) z.cells.toList := by
  unfold elemOk at h
  split at h
  · rename_i i hi
    simp only [Bool.and_eq_true, beq_iff_eq, bne_iff_ne, ne_eq] at h
    obtain ⟨⟨h1, h2⟩, h3⟩ := h
    split at h2
    · rename_i z hz
      simp only [Bool.and_eq_true, beq_iff_eq] at h2
      refine ⟨i, z, hi, hz, h1, h2.1, by omega, fun fz => ?_⟩
      have h4 := h2.2
      split at h4
      · rename_i hzr
        obtain ⟨c, hc, hr⟩ := zrep_rep (fz := fz) s _ _ hzr
        rw [hc, List.append_nil]; exact hr
      · cases h4
    · cases h2
  · cases h
theorem elemSh_some {P : Program} {t : TypeId} {s : Sh} (h : elemSh P t = some s) : ∃ e, P.underlying t = some (.slice e) ∧ elemT P t = some e ∧ elemOk P e s = true := by
  unfold elemSh at h
  split at h
  · rename_i e he
    split at h
    · split at h
      · rename_i hk
        cases h
        have he' := he
        unfold elemT at he'
        split at he'
        · rename_i q hq; cases he'; exact ⟨_, hq, he, hk⟩
        · cases he'
      · cases h
    · cases h
  · cases h
theorem most_le (b n : Nat) (h : n ≤ most b) : n * b ≤ 35184372088832 ∧ n ≤ 35184372088832 := by
  unfold most at h
  have h1 : n * (b + 1) ≤ 35184372088832 := Nat.le_trans (Nat.mul_le_mul_right _ h) (Nat.div_mul_le_self _ _)
  have h2 : n * (b + 1) = n * b + n := by rw [Nat.mul_add, Nat.mul_one]
  omega
theorem made_rep {α : Type} {R : α → List Value → Prop} {d : α} {z : Array Value} (h : R d z.toList) (hz : 0 < z.size) : ∀ (n : Nat), RepL R (List.replicate n d) ((List.range (n * z.size)).map fun i => z[i % z.size]!)
  | 0 => by simp; exact rfl
  | n + 1 => by
    refine ⟨z.toList, (List.range (n * z.size)).map fun i => z[i % z.size]!, ?_, h, made_rep h hz n⟩
    rw [show (n + 1) * z.size = z.size + n * z.size by rw [Nat.add_mul]; omega, List.range_add, List.map_append, List.map_map]
    congr 1
    · apply List.ext_getElem?
      intro j
      by_cases hj : j < z.size
      · simp [hj, Nat.mod_eq_of_lt hj, getElem!_pos]
      · simp [hj, List.getElem?_eq_none (show z.toList.length ≤ j by simp; omega)]
    · apply List.map_congr_left
      intro j _
      simp
theorem setAt_rep {fz : Fz} : ∀ (t : Sh) (x : sem t) (off : Nat) (t' : Sh) (y : sem t') (z : sem t), setAt t x off t' y = some z → ∀ cs cy, RepC fz t x cs → RepC fz t' y cy →
    RepC fz t z (cs.take off ++ cy ++ cs.drop (off + t'.size)) ∧ off + t'.size ≤ cs.length := by
  intro t
  induction t with
  | pair a b iha ihb =>
    intro x off t' y z h cs cy hr hy
    have hly := RepC.len _ _ _ hy
    unfold setAt at h
    split at h
    · rename_i e
      obtain ⟨rfl, rfl⟩ := e
      rw [cast?_self] at h
      cases h
      have hl := RepC.len _ _ _ hr
      exact ⟨by rw [List.take_zero, List.nil_append, Nat.zero_add, List.drop_of_length_le (by omega), List.append_nil]; exact hy, by omega⟩
    · obtain ⟨l1, l2, rfl, h1, h2⟩ := hr
      have e1 := RepC.len _ _ _ h1
      have e2 := RepC.len _ _ _ h2
      simp only at h
      split at h
      · rename_i ho
        split at h
        · rename_i q hq
          cases h
          obtain ⟨q1, q2⟩ := iha _ _ _ _ _ hq _ _ h1 hy
          refine ⟨⟨_, l2, ?_, q1, h2⟩, by simp; omega⟩
          rw [List.take_append, List.drop_append, show off - l1.length = 0 by omega, show off + t'.size - l1.length = 0 by omega]
          simp
        · cases h
      · rename_i ho
        split at h
        · rename_i q hq
          cases h
          obtain ⟨q1, q2⟩ := ihb _ _ _ _ _ hq _ _ h2 hy
          refine ⟨⟨l1, _, ?_, h1, q1⟩, by simp; omega⟩
          rw [List.take_append, List.drop_append, List.take_of_length_le (show l1.length ≤ off by omega), List.drop_of_length_le (show l1.length ≤ off + t'.size by omega), e1, show off + t'.size - a.size = off - a.size + t'.size by omega]
          simp
        · cases h
  | rose t iht =>
    intro x off t' y z h cs cy hr hy
    have hly := RepC.len _ _ _ hy
    unfold setAt at h
    split at h
    · rename_i e
      obtain ⟨rfl, rfl⟩ := e
      rw [cast?_self] at h
      cases h
      have hl := RepC.len _ _ _ hr
      exact ⟨by rw [List.take_zero, List.nil_append, Nat.zero_add, List.drop_of_length_le (by omega), List.append_nil]; exact hy, by omega⟩
    · obtain ⟨l1, l2, rfl, h1, h2⟩ := RepC.rose.1 hr
      have e1 := RepC.len _ _ _ h1
      have e2 := RepC.len _ _ _ h2
      simp only at h
      split at h
      · rename_i ho
        split at h
        · rename_i q hq
          cases h
          obtain ⟨q1, q2⟩ := iht _ _ _ _ _ hq _ _ h1 hy
          refine ⟨RepC.rose.2 ⟨_, l2, ?_, q1, h2⟩, by simp; omega⟩
          rw [List.take_append, List.drop_append, show off - l1.length = 0 by omega, show off + t'.size - l1.length = 0 by omega]
          simp
        · cases h
      · split at h
        · rename_i ho1 ho
          split at h
          · rename_i q hq
            cases h
            obtain ⟨e, e'⟩ := cast?_some hq
            subst e
            subst e'
            refine ⟨RepC.rose.2 ⟨l1, cy, ?_, h1, hy⟩, by simp [e1, e2, ho]⟩
            rw [List.take_append, List.drop_of_length_le (by simp; omega), List.take_of_length_le (show l1.length ≤ off by omega), show off - l1.length = 0 by omega]
            simp
          · cases h
        · cases h
  | _ =>
    intro x off t' y z h cs cy hr hy
    have hly := RepC.len _ _ _ hy
    unfold setAt at h
    split at h
    · rename_i e
      obtain ⟨rfl, rfl⟩ := e
      rw [cast?_self] at h
      cases h
      have hl := RepC.len _ _ _ hr
      exact ⟨by rw [List.take_zero, List.nil_append, Nat.zero_add, List.drop_of_length_le (by omega), List.append_nil]; exact hy, by omega⟩
    · cases h
end Go.Den
