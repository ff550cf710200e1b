-- The plain law of this claim: no program in sight but the equations of its functions.
import Derived.Test.YtacfnpnaeiagnabFitFnExactSetOf
import Derived.Test.YtacfnpnaeiagnabDenP
namespace Go.Proofs.Ytacfnpnaeiagnab.PS
open Go Go.Den
open Go.RowKit (wrap64)
set_option linter.unusedVariables false
set_option linter.unusedSimpArgs false
set_option linter.unusedSectionVars false
theorem spec_l1CmpNum_ev (a b : Int) : Ev (fun K _ => spec_l1CmpNum.f K a b) (if a < b then -1 else if a > b then 1 else 0) :=
  Ev.fn (fun k => spec_l1CmpNum.f_eq k a b) (Ev.ite (fun h => Ev.some (by rw [if_pos h])) fun h => Ev.ite (fun g => Ev.some (by rw [if_neg h, if_pos g])) fun g => Ev.some (by rw [if_neg h, if_neg g]))
/-! ### the order of texts -/
def cmpL : List Int → List Int → Int
  | [], [] => 0
  | [], _ :: _ => -1
  | _ :: _, [] => 1
  | a :: l, b :: m => if a = b then cmpL l m else if a < b then -1 else 1
def cmpT (s t : ByteArray) : Int := cmpL (bytesOf s) (bytesOf t)
theorem cmpL_refl : ∀ l : List Int, cmpL l l = 0
  | [] => rfl
  | a :: l => by unfold cmpL; rw [if_pos rfl]; exact cmpL_refl l
theorem cmpL_zero : ∀ {l m : List Int}, cmpL l m = 0 → l = m
  | [], [], _ => rfl
  | [], _ :: _, h => by simp [cmpL] at h
  | _ :: _, [], h => by simp [cmpL] at h
  | a :: l, b :: m, h => by
    unfold cmpL at h
    by_cases e : a = b
    · rw [if_pos e] at h
      rw [e, cmpL_zero h]
    · rw [if_neg e] at h
      split at h <;> omega
theorem cmpL_anti : ∀ (l m : List Int), cmpL m l = - cmpL l m
  | [], [] => rfl
  | [], _ :: _ => rfl
  | _ :: _, [] => rfl
  | a :: l, b :: m => by
    unfold cmpL
    by_cases e : a = b
    · rw [if_pos e, if_pos e.symm]; exact cmpL_anti l m
    · rw [if_neg e, if_neg (Ne.symm e)]
      by_cases h : a < b
      · rw [if_pos h, if_neg (by omega)]; rfl
      · rw [if_neg h, if_pos (by omega)]
theorem cmpL_range (l m : List Int) : cmpL l m = -1 ∨ cmpL l m = 0 ∨ cmpL l m = 1 := by
  induction l generalizing m with
  | nil => cases m <;> simp [cmpL]
  | cons a l ih =>
    cases m with
    | nil => simp [cmpL]
    | cons b m =>
      unfold cmpL
      by_cases e : a = b
      · rw [if_pos e]; exact ih m
      · rw [if_neg e]; split <;> simp
theorem bytesOf_inj {s t : ByteArray} (h : bytesOf s = bytesOf t) : s = t := by
  have e : s.data.toList = t.data.toList := by
    unfold bytesOf at h
    have inj : ∀ (l m : List UInt8), l.map (fun b => (b.toNat : Int)) = m.map (fun b => (b.toNat : Int)) → l = m := by
      intro l
      induction l with
      | nil => intro m h; cases m with
        | nil => rfl
        | cons b m => simp at h
      | cons a l ih => intro m h; cases m with
        | nil => simp at h
        | cons b m =>
          simp only [List.map_cons, List.cons.injEq] at h
          obtain ⟨h1, h2⟩ := h
          have h3 : a.toNat = b.toNat := by omega
          rw [ih m h2, UInt8.toNat_inj.1 h3]
    exact inj _ _ h
  cases s; cases t
  simp only [ByteArray.mk.injEq]
  exact Array.ext' e
theorem cmpT_zero {s t : ByteArray} : cmpT s t = 0 ↔ s = t :=
  ⟨fun h => bytesOf_inj (cmpL_zero h), fun h => by rw [h]; exact cmpL_refl _⟩
theorem cmpT_range (s t : ByteArray) : cmpT s t = -1 ∨ cmpT s t = 0 ∨ cmpT s t = 1 := cmpL_range _ _
theorem bytesLess_iff (s t : ByteArray) : Op.bytesLess s.toList t.toList = true ↔ cmpT s t = -1 := by
  rw [ByteArray.toList_eq, ByteArray.toList_eq]
  unfold cmpT bytesOf
  generalize s.data.toList = l
  generalize t.data.toList = m
  induction l generalizing m with
  | nil => cases m <;> simp [Op.bytesLess, cmpL]
  | cons a l ih =>
    cases m with
    | nil => simp [Op.bytesLess, cmpL]
    | cons b m =>
      simp only [List.map_cons]
      unfold cmpL Op.bytesLess
      by_cases e : a = b
      · subst e
        rw [if_pos rfl, ← ih m]
        simp
      · have hne : (a.toNat : Int) ≠ b.toNat := fun h => e (UInt8.toNat_inj.1 (by omega))
        rw [if_neg hne]
        by_cases h : a < b
        · have : (a.toNat : Int) < b.toNat := by have := UInt8.lt_iff_toNat_lt.1 h; omega
          rw [if_pos this]; simp [h]
        · have h' : ¬ (a.toNat : Int) < b.toNat := fun q => h (UInt8.lt_iff_toNat_lt.2 (by omega))
          rw [if_neg h']; simp [h, e]
theorem spec_l1CmpText_l (s t : ByteArray) (hs : s.size ≤ 140737488351232) (ht : t.size ≤ 140737488351232) : ∀ (d i : Nat), s.size = i + d → i ≤ t.size → Ev (fun K j => spec_l1CmpText.l6 K j s t (i : Int)) (cmpL ((bytesOf s).drop i) ((bytesOf t).drop i)) := by
  have bad : ∀ (i : Nat), i ≤ s.size → i ≤ t.size → (i = s.size ∨ i = t.size) → Ev (fun K _ => (spec_l1CmpNum.f K (s.size : Int) (t.size : Int)).bind fun t0 => some t0) (cmpL ((bytesOf s).drop i) ((bytesOf t).drop i)) := by
    intro i h1 h2 h3
    refine (spec_l1CmpNum_ev _ _).bind (Ev.some ?_)
    rcases h3 with rfl | rfl
    · rw [List.drop_eq_nil_of_le (by rw [bytesOf_length]; exact Nat.le_refl _)]
      by_cases h : s.size < t.size
      · rw [if_pos (by omega), drop_bytes t _ h]; rfl
      · rw [if_neg (by omega), if_neg (by omega), List.drop_eq_nil_of_le (by rw [bytesOf_length]; omega)]; rfl
    · have dz : (bytesOf t).drop t.size = [] := List.drop_eq_nil_of_le (by rw [bytesOf_length]; exact Nat.le_refl _)
      rw [dz]
      by_cases h : t.size < s.size
      · rw [if_neg (by omega), if_pos (by omega), drop_bytes s _ h]; rfl
      · rw [if_neg (by omega), if_neg (by omega), List.drop_eq_nil_of_le (by rw [bytesOf_length]; omega)]; rfl
  intro d
  induction d with
  | zero =>
    intro i h h2
    exact Ev.lp (fun K j => spec_l1CmpText.l6_eq K j s t i) (Ev.no (by omega) (bad i (by omega) h2 (Or.inl (by omega))))
  | succ d ih =>
    intro i h h2
    refine Ev.lp (fun K j => spec_l1CmpText.l6_eq K j s t i) (Ev.yes (by omega) ?_)
    by_cases h3 : i < t.size
    · refine Ev.yes (by omega) (Ev.yes (by omega) (Ev.yes (by omega) ?_))
      rw [drop_bytes s i (by omega), drop_bytes t i h3]
      unfold cmpL
      have b1 := bt_range s i
      have b2 := bt_range t i
      refine Ev.ite (fun e => ?_) fun e => Ev.yes (by omega) (Ev.yes (by omega) ((spec_l1CmpNum_ev _ _).bind (Ev.some ?_)))
      · rw [if_pos e, wrap_nat (by omega)]
        exact ih (i + 1) (by omega) (by omega)
      · rw [if_neg e, wrap_id (by omega) (by omega), wrap_id (by omega) (by omega)]
        by_cases hlt : bt s i < bt t i
        · rw [if_pos hlt, if_pos hlt]
        · rw [if_neg hlt, if_neg hlt, if_pos (by omega)]
    · exact Ev.no (by omega) (bad i (by omega) h2 (Or.inr (by omega)))
theorem spec_l1CmpText_ev (s t : ByteArray) (hs : s.size ≤ 140737488351232) (ht : t.size ≤ 140737488351232) : Ev (fun K _ => spec_l1CmpText.f K s t) (cmpT s t) :=
  Ev.fn (fun k => spec_l1CmpText.f_eq k s t) (Ev.diag (spec_l1CmpText_l s t hs ht s.size 0 (by omega) (by omega)))
theorem less_cmp (s t : ByteArray) : (Op.bytesLess s.toList t.toList = true) ↔ cmpT s t < 0 := by
  rw [bytesLess_iff]
  rcases cmpT_range s t with h | h | h <;> rw [h] <;> decide

/-! ### values beside their measure -/
theorem wf_range {k : IntKind} {x : Int} (h : k.min ≤ x ∧ x ≤ k.max) : (Lit.int k x).wf = true := by
  simp [Lit.wf]; exact h
theorem fit_bool (b : Bool) : fitSh .bool b := trivial
theorem fit_unit : fitSh .unit () := trivial
theorem fit_pair {a b : Sh} {x : sem a} {y : sem b} (h : fitSh a x) (g : fitSh b y) : fitSh (.pair a b) (x, y) := ⟨h, g⟩
theorem fit_lst {t : Sh} {l : List (sem t)} (h : l.length ≤ 140737488351232) (g : allIn (α := sem t) l (fitSh t)) : fitSh (.list t) l := ⟨h, g⟩
theorem fit_dflt : ∀ s : Sh, fitSh s (dflt s)
  | .int k => by cases k <;> rfl
  | .bool => trivial
  | .str => by show (0 : Nat) ≤ _; omega
  | .unit => trivial
  | .pair a b => ⟨fit_dflt a, fit_dflt b⟩
  | .list t => ⟨Nat.zero_le _, fun x hx => by cases hx⟩
theorem fit_rd {t : Sh} {l : List (sem t)} (h : fitSh (.list t) l) (i : Int) : fitSh t (rd (dflt t) l i) := by
  unfold rd
  rw [List.getD_eq_getElem?_getD]
  cases hi : l[i.toNat]? with
  | none => exact fit_dflt t
  | some x => exact h.2 x (List.mem_of_getElem? hi)
theorem fit_cut {t : Sh} {l : List (sem t)} (h : fitSh (.list t) l) (a b : Int) : fitSh (.list t) (cut l a b) := by
  unfold cut
  refine ⟨?_, fun x hx => h.2 x (List.mem_of_mem_take (List.mem_of_mem_drop hx))⟩
  have h1 : l.length ≤ 140737488351232 := h.1
  show List.length _ ≤ _
  rw [List.length_drop, List.length_take]; omega
theorem fit_nil {t : Sh} : fitSh (.list t) ([] : List (sem t)) := ⟨Nat.zero_le _, fun x hx => by cases hx⟩
theorem fit_cons {t : Sh} {x : sem t} {l : List (sem t)} (hx : fitSh t x) (h : allIn (α := sem t) l (fitSh t)) : allIn (α := sem t) (x :: l) (fitSh t) := fun y hy => by
  rcases List.mem_cons.1 hy with rfl | hy
  · exact hx
  · exact h y hy
theorem fit_cutS {s : ByteArray} (h : fitSh .str s) (a b : Int) : fitSh .str (cutS s a b) := by
  have h : s.size ≤ 140737488351232 := h
  show (s.extract a.toNat b.toNat).size ≤ _
  rw [ByteArray.size_extract]; omega
theorem fit_len {n : Nat} (h : n ≤ 140737488351232) : fitSh (.int .i64) (n : Int) := wf_range (by simp only [IntKind.min, IntKind.max, IntKind.signed, IntKind.bits]; constructor <;> simp <;> omega)
theorem fit_wrap (x : Int) : fitSh (.int .i64) (wrap64 x) := wf_range (by simp only [IntKind.min, IntKind.max, IntKind.signed, IntKind.bits]; unfold wrap64; constructor <;> simp <;> omega)
theorem fit_i64 {x : Int} (h : -9223372036854775808 ≤ x ∧ x ≤ 9223372036854775807) : fitSh (.int .i64) x := wf_range (by simp only [IntKind.min, IntKind.max, IntKind.signed, IntKind.bits]; constructor <;> simp <;> omega)
theorem i64_of {x : Int} (h : fitSh (.int .i64) x) : -9223372036854775808 ≤ x ∧ x ≤ 9223372036854775807 := by
  have h : (Lit.int .i64 x).wf = true := h
  simp [Lit.wf, IntKind.min, IntKind.max, IntKind.signed, IntKind.bits] at h
  omega
theorem fit_bytes {s : ByteArray} (h : Nat.ble s.size 140737488351232 = true) : fitSh .str s := Nat.le_of_ble_eq_true h
theorem fit_u8 {x : Int} (h : 0 ≤ x ∧ x ≤ 255) : fitSh (.int .u8) x := wf_range (by simp only [IntKind.min, IntKind.max, IntKind.signed, IntKind.bits]; constructor <;> simp <;> omega)
theorem fit_bt (s : ByteArray) (i : Int) : fitSh (.int .u8) (bt s i) := fit_u8 (bt_range s i)
theorem fit_wfb {k : IntKind} {x : Int} (h : (Lit.int k x).wf = true) : fitSh (.int k) x := h
def EvF (s : Sh) (g : Nat → Nat → Option (sem s)) (r : sem s) : Prop := Ev g r ∧ fitSh s r
section
variable {s s' : Sh} {r : sem s}
theorem EvF.some {a : sem s} (h : a = r) (f : fitSh s r) : EvF s (fun _ _ => Option.some a) r := ⟨Ev.some h, f⟩
theorem EvF.now (f : fitSh s r) : EvF s (fun _ _ => Option.some r) r := ⟨Ev.now r, f⟩
theorem EvF.yes {c : Prop} {inst : Decidable c} {A B : Nat → Nat → Option (sem s)} (h : c) (k : EvF s A r) : EvF s (fun K j => @ite _ c inst (A K j) (B K j)) r := ⟨k.1.congr fun _ _ => if_pos h, k.2⟩
theorem EvF.no {c : Prop} {inst : Decidable c} {A B : Nat → Nat → Option (sem s)} (h : ¬ c) (k : EvF s B r) : EvF s (fun K j => @ite _ c inst (A K j) (B K j)) r := ⟨k.1.congr fun _ _ => if_neg h, k.2⟩
theorem EvF.ite {c : Prop} {inst : Decidable c} {A B : Nat → Nat → Option (sem s)} {x y : sem s} (h : c → EvF s A x) (k : ¬ c → EvF s B y) : EvF s (fun K j => @ite _ c inst (A K j) (B K j)) (@ite _ c inst x y) := by
  by_cases e : c
  · rw [if_pos e]; exact EvF.yes e (h e)
  · rw [if_neg e]; exact EvF.no e (k e)
theorem EvF.bind {g : Nat → Nat → Option (sem s')} {f : Nat → Nat → sem s' → Option (sem s)} {a : sem s'} (h : EvF s' g a) (k : fitSh s' a → EvF s (fun K j => f K j a) r) : EvF s (fun K j => (g K j).bind (f K j)) r :=
  ⟨h.1.bind (k h.2).1, (k h.2).2⟩
theorem EvF.fn {f B : Nat → Option (sem s)} (e : ∀ k, f (k + 1) = B k) (h : EvF s (fun K _ => B K) r) : EvF s (fun K _ => f K) r := ⟨Ev.fn e h.1, h.2⟩
theorem EvF.lp {L B : Nat → Nat → Option (sem s)} (e : ∀ K j, L K (j + 1) = B K j) (h : EvF s B r) : EvF s L r := ⟨Ev.lp e h.1, h.2⟩
theorem EvF.diag {L : Nat → Nat → Option (sem s)} (h : EvF s L r) : EvF s (fun K _ => L K K) r := ⟨Ev.diag h.1, h.2⟩
end
theorem drop_more {α : Type} {l : List α} {i : Nat} {x : α} {r : List α} (h : l.drop i = x :: r) : i < l.length ∧ l.drop (i + 1) = r ∧ ∀ z, rd z l (i : Int) = x := by
  have hi : i < l.length := by
    rcases Nat.lt_or_ge i l.length with q | q
    · exact q
    · rw [List.drop_eq_nil_of_le q] at h; cases h
  rw [List.drop_eq_getElem_cons hi] at h
  obtain ⟨h1, h2⟩ := List.cons.inj h
  exact ⟨hi, h2, fun z => by rw [rd_at z l i hi]; exact h1⟩
theorem drop_none {α : Type} {l : List α} {i : Nat} (h : l.drop i = []) : l.length ≤ i := by
  have := congrArg List.length h
  rw [List.length_drop] at this
  simp at this; omega
theorem bdrop_more {s : ByteArray} {i : Nat} {x : Int} {r : List Int} (h : (bytesOf s).drop i = x :: r) : i < s.size ∧ (bytesOf s).drop (i + 1) = r ∧ bt s (i : Int) = x := by
  have hi : i < s.size := by
    rcases Nat.lt_or_ge i s.size with q | q
    · exact q
    · rw [List.drop_eq_nil_of_le (by rw [bytesOf_length]; exact q)] at h; cases h
  rw [drop_bytes s i hi] at h
  obtain ⟨h1, h2⟩ := List.cons.inj h
  exact ⟨hi, h2, h1⟩
theorem bdrop_none {s : ByteArray} {i : Nat} (h : (bytesOf s).drop i = []) : s.size ≤ i := by
  have := congrArg List.length h
  rw [List.length_drop, bytesOf_length] at this
  simp at this; omega

abbrev spec_l1CmpText.v (s t : ByteArray) : Int := cmpT s t
theorem spec_l1CmpText.v_ev (s t : ByteArray) (f : fitSh .str s) (g : fitSh .str t) : EvF (.int .i64) (fun K _ => spec_l1CmpText.f K s t) (spec_l1CmpText.v s t) := ⟨spec_l1CmpText_ev s t f g, fit_i64 (by rcases cmpT_range s t with h | h | h <;> rw [spec_l1CmpText.v, h] <;> omega)⟩

def spec_l1CmpNum.v (a0 : Int) (a1 : Int) : Int :=
  (if (a0 : Int) < a1 then (-1) else (if (a0 : Int) > a1 then 1 else 0))
theorem spec_l1CmpNum.v_ev (a0 : Int) (a1 : Int) (f_a0 : fitSh (.int .i64) a0) (f_a1 : fitSh (.int .i64) a1) : EvF (.int .i64) (fun K _ => spec_l1CmpNum.f K a0 a1) (spec_l1CmpNum.v a0 a1) := by
  unfold spec_l1CmpNum.v
  exact EvF.fn (fun k => spec_l1CmpNum.f_eq k a0 a1) (EvF.ite (fun h0 => (EvF.now ((fit_wfb rfl)))) fun h0 => (EvF.ite (fun h1 => (EvF.now ((fit_wfb rfl)))) fun h1 => (EvF.now ((fit_wfb rfl)))))
def spec_l1Cmp.v (a0 : T54) (a1 : T54) : Int :=
  (let t0 := spec_l1CmpNum.v a0.1 a1.1; (if (t0 : Int) = 0 then (let t1 := spec_l1CmpNum.v a0.2.1 a1.2.1; (if (t1 : Int) = 0 then (let t2 := spec_l1CmpText.v a0.2.2.2.1 a1.2.2.2.1; (if (t2 : Int) = 0 then (spec_l1CmpText.v a0.2.2.1 a1.2.2.1) else t2)) else t1)) else t0))
theorem spec_l1Cmp.v_ev (a0 : T54) (a1 : T54) (f_a0 : fitSh S54 a0) (f_a1 : fitSh S54 a1) : EvF (.int .i64) (fun K _ => spec_l1Cmp.f K a0 a1) (spec_l1Cmp.v a0 a1) := by
  unfold spec_l1Cmp.v
  exact EvF.fn (fun k => spec_l1Cmp.f_eq k a0 a1) (EvF.bind (spec_l1CmpNum.v_ev _ _ (f_a0.1) (f_a1.1)) fun f_t0 => (EvF.ite (fun h0 => (EvF.bind (spec_l1CmpNum.v_ev _ _ (f_a0.2.1) (f_a1.2.1)) fun f_t1 => (EvF.ite (fun h1 => (EvF.bind (spec_l1CmpText.v_ev _ _ (f_a0.2.2.2.1) (f_a1.2.2.2.1)) fun f_t2 => (EvF.ite (fun h2 => (EvF.bind (spec_l1CmpText.v_ev _ _ (f_a0.2.2.1) (f_a1.2.2.1)) fun f_t3 => (EvF.now (f_t3)))) fun h2 => (EvF.now (f_t2))))) fun h1 => (EvF.now (f_t1))))) fun h0 => (EvF.now (f_t0))))

def cmp_isNaN_int.v (a0 : Int) : Bool :=
  (!(decide ((a0 : Int) = a0)))
theorem cmp_isNaN_int.v_ev (a0 : Int) (f_a0 : fitSh (.int .i64) a0) : EvF .bool (fun K _ => cmp_isNaN_int.f K a0) (cmp_isNaN_int.v a0) := by
  unfold cmp_isNaN_int.v
  exact EvF.fn (fun k => cmp_isNaN_int.f_eq k a0) (EvF.now (fit_bool _))
def cmp_Compare_int.v (a0 : Int) (a1 : Int) : Int :=
  (let t0 := cmp_isNaN_int.v a0; (let t1 := cmp_isNaN_int.v a1; (if t0 = true then (if t1 = true then 0 else (-1)) else (if t1 = true then 1 else (if (a0 : Int) < a1 then (-1) else (if (a0 : Int) > a1 then 1 else 0))))))
theorem cmp_Compare_int.v_ev (a0 : Int) (a1 : Int) (f_a0 : fitSh (.int .i64) a0) (f_a1 : fitSh (.int .i64) a1) : EvF (.int .i64) (fun K _ => cmp_Compare_int.f K a0 a1) (cmp_Compare_int.v a0 a1) := by
  unfold cmp_Compare_int.v
  exact EvF.fn (fun k => cmp_Compare_int.f_eq k a0 a1) (EvF.bind (cmp_isNaN_int.v_ev _ (f_a0)) fun f_t0 => (EvF.bind (cmp_isNaN_int.v_ev _ (f_a1)) fun f_t1 => (EvF.ite (fun h0 => (EvF.ite (fun h1 => (EvF.now ((fit_wfb rfl)))) fun h1 => (EvF.now ((fit_wfb rfl))))) fun h0 => (EvF.ite (fun h1 => (EvF.now ((fit_wfb rfl)))) fun h1 => (EvF.ite (fun h2 => (EvF.now ((fit_wfb rfl)))) fun h2 => (EvF.ite (fun h3 => (EvF.now ((fit_wfb rfl)))) fun h3 => (EvF.now ((fit_wfb rfl)))))))))
def cmp_isNaN_string.v (a0 : ByteArray) : Bool :=
  (!(decide (a0.toList = a0.toList)))
theorem cmp_isNaN_string.v_ev (a0 : ByteArray) (f_a0 : fitSh .str a0) : EvF .bool (fun K _ => cmp_isNaN_string.f K a0) (cmp_isNaN_string.v a0) := by
  unfold cmp_isNaN_string.v
  exact EvF.fn (fun k => cmp_isNaN_string.f_eq k a0) (EvF.now (fit_bool _))
def cmp_Compare_string.v (a0 : ByteArray) (a1 : ByteArray) : Int :=
  (let t0 := cmp_isNaN_string.v a0; (let t1 := cmp_isNaN_string.v a1; (if t0 = true then (if t1 = true then 0 else (-1)) else (if t1 = true then 1 else (if (Op.bytesLess a0.toList a1.toList) = true then (-1) else (if (Op.bytesLess a0.toList a1.toList || decide (a0.toList = a1.toList)) = true then 0 else 1))))))
theorem cmp_Compare_string.v_ev (a0 : ByteArray) (a1 : ByteArray) (f_a0 : fitSh .str a0) (f_a1 : fitSh .str a1) : EvF (.int .i64) (fun K _ => cmp_Compare_string.f K a0 a1) (cmp_Compare_string.v a0 a1) := by
  unfold cmp_Compare_string.v
  exact EvF.fn (fun k => cmp_Compare_string.f_eq k a0 a1) (EvF.bind (cmp_isNaN_string.v_ev _ (f_a0)) fun f_t0 => (EvF.bind (cmp_isNaN_string.v_ev _ (f_a1)) fun f_t1 => (EvF.ite (fun h0 => (EvF.ite (fun h1 => (EvF.now ((fit_wfb rfl)))) fun h1 => (EvF.now ((fit_wfb rfl))))) fun h0 => (EvF.ite (fun h1 => (EvF.now ((fit_wfb rfl)))) fun h1 => (EvF.ite (fun h2 => (EvF.now ((fit_wfb rfl)))) fun h2 => (EvF.ite (fun h3 => (EvF.now ((fit_wfb rfl)))) fun h3 => (EvF.now ((fit_wfb rfl)))))))))
def cmp_Or_int.l8.v (x3 : Int)  : List Int → Nat → Int
  | [], i => x3
  | e :: rest, i => (if (e : Int) = x3 then (cmp_Or_int.l8.v x3 rest (i + 1)) else e)
theorem cmp_Or_int.l8.v_ev (x3 : Int) (x6 : (List Int)) (f_x3 : fitSh (.int .i64) x3) (f_x6 : fitSh (.list (.int .i64)) x6)  : ∀ (rest : List Int) (i : Nat)  , x6.drop i = rest → EvF (.int .i64) (fun K j => cmp_Or_int.l8 K j x3 x6 (x6.length : Int) (i : Int)) (cmp_Or_int.l8.v x3 rest i ) := by
  have bX : x6.length ≤ 140737488351232 := f_x6.1
  intro rest
  induction rest with
  | nil =>
    intro i hd
    have hz := drop_none hd
    unfold cmp_Or_int.l8.v
    exact EvF.lp (fun K j => cmp_Or_int.l8_eq K j x3 x6 (x6.length : Int) (i : Int)) (EvF.no (by omega) (EvF.now (f_x3)))
  | cons e rest ih =>
    intro i hd
    obtain ⟨hlt, hd2, hx⟩ := drop_more hd
    have f_e : fitSh (.int .i64) e := hx (dflt (.int .i64)) ▸ fit_rd f_x6 _
    have f_i : fitSh (.int .i64) (i : Int) := fit_len (by omega)
    unfold cmp_Or_int.l8.v
    refine EvF.lp (fun K j => cmp_Or_int.l8_eq K j x3 x6 (x6.length : Int) (i : Int)) (EvF.yes (by omega) ?_)
    try rw [hx]
    try rw [wrap_nat (i := i) (by omega)]
    exact (EvF.yes (by first | omega | (simp only [wrap64] at *; omega)) (EvF.ite (fun h0 => (ih (i + 1)   hd2)) fun h0 => (EvF.now (f_e))))
def cmp_Or_int.v (a0 : (List Int)) : Int :=
  (cmp_Or_int.l8.v 0 a0 0)
theorem cmp_Or_int.v_ev (a0 : (List Int)) (f_a0 : fitSh (.list (.int .i64)) a0) : EvF (.int .i64) (fun K _ => cmp_Or_int.f K a0) (cmp_Or_int.v a0) := by
  unfold cmp_Or_int.v
  exact EvF.fn (fun k => cmp_Or_int.f_eq k a0) (EvF.diag (cmp_Or_int.l8.v_ev 0 a0 ((fit_wfb rfl)) (f_a0)  _ 0    rfl))
def impl_ycmpAtom.v (a0 : T54) (a1 : T54) : Int :=
  (let t0 := cmp_Compare_int.v a0.1 a1.1; (let t1 := cmp_Compare_int.v a0.2.1 a1.2.1; (let t2 := cmp_Compare_string.v a0.2.2.2.1 a1.2.2.2.1; (let t3 := cmp_Compare_string.v a0.2.2.1 a1.2.2.1; (cmp_Or_int.v [t0, t1, t2, t3])))))
theorem impl_ycmpAtom.v_ev (a0 : T54) (a1 : T54) (f_a0 : fitSh S54 a0) (f_a1 : fitSh S54 a1) : EvF (.int .i64) (fun K _ => impl_ycmpAtom.f K a0 a1) (impl_ycmpAtom.v a0 a1) := by
  unfold impl_ycmpAtom.v
  exact EvF.fn (fun k => impl_ycmpAtom.f_eq k a0 a1) (EvF.bind (cmp_Compare_int.v_ev _ _ (f_a0.1) (f_a1.1)) fun f_t0 => (EvF.bind (cmp_Compare_int.v_ev _ _ (f_a0.2.1) (f_a1.2.1)) fun f_t1 => (EvF.bind (cmp_Compare_string.v_ev _ _ (f_a0.2.2.2.1) (f_a1.2.2.2.1)) fun f_t2 => (EvF.bind (cmp_Compare_string.v_ev _ _ (f_a0.2.2.1) (f_a1.2.2.1)) fun f_t3 => (EvF.bind (cmp_Or_int.v_ev _ (fit_lst (Nat.le_of_ble_eq_true rfl) (fit_cons (f_t0) (fit_cons (f_t1) (fit_cons (f_t2) (fit_cons (f_t3) (fun _ hx => by cases hx))))))) fun f_t4 => (EvF.now (f_t4)))))))

theorem compare_int (a b : Int) : cmp_Compare_int.v a b = spec_l1CmpNum.v a b := by
  unfold cmp_Compare_int.v spec_l1CmpNum.v cmp_isNaN_int.v; simp
theorem compare_string (s t : ByteArray) : cmp_Compare_string.v s t = cmpT s t := by
  unfold cmp_Compare_string.v cmp_isNaN_string.v
  simp only [decide_true, Bool.not_true, Bool.false_eq_true, if_false]
  by_cases h : Op.bytesLess s.toList t.toList = true
  · rw [if_pos h, (bytesLess_iff s t).1 h]
  · have h1 : cmpT s t ≠ -1 := fun q => h ((bytesLess_iff s t).2 q)
    rw [if_neg h]
    by_cases e : s.toList = t.toList
    · have e2 : s = t := bytesOf_inj (by
        have e1 : s.data.toList = t.data.toList := by rw [← ByteArray.toList_eq, ← ByteArray.toList_eq, e]
        unfold bytesOf; rw [e1])
      rw [if_pos (by simp [e]), cmpT_zero.2 e2]
    · have h2 : cmpT s t ≠ 0 := fun q => e (by rw [cmpT_zero.1 q])
      rw [if_neg (by simp [h, e])]
      rcases cmpT_range s t with q | q | q <;> omega
theorem or4 (a b c d : Int) : cmp_Or_int.v [a, b, c, d] = if a = 0 then (if b = 0 then (if c = 0 then d else c) else b) else a := by
  unfold cmp_Or_int.v
  simp only [cmp_Or_int.l8.v]
  by_cases h : d = 0
  · rw [if_pos h, h]
  · rw [if_neg h]
theorem cmpAtom_same (a b : T54) : impl_ycmpAtom.v a b = spec_l1Cmp.v a b := by
  unfold impl_ycmpAtom.v spec_l1Cmp.v
  simp only [compare_int, compare_string, or4]

/-! ### good names -/
def pDigit (a : Int) : Bool := decide (48 ≤ a ∧ a ≤ 57)
def pLetter (a : Int) : Bool := decide (97 ≤ a ∧ a ≤ 122 ∨ 65 ≤ a ∧ a ≤ 90)
def pWord (a : Int) : Bool := pLetter a || pDigit a || decide (a = 95)
def goodName (s : ByteArray) : Bool := decide (1 ≤ s.size ∧ s.size ≤ 30) && !pDigit (bt s 0) && (bytesOf s).all pWord
theorem spec_l1Digit_ev (a : Int) : Ev (fun K _ => spec_l1Digit.f K a) (pDigit a) := by
  refine Ev.fn (fun k => spec_l1Digit.f_eq k a) ?_
  unfold pDigit
  exact Ev.ite (fun _ => Ev.some (by (first | rfl | exact decide_eq_decide.2 (by omega) | exact (decide_eq_false (by omega)).symm | exact (decide_eq_true (by omega)).symm))) fun _ => Ev.some (by (first | rfl | exact decide_eq_decide.2 (by omega) | exact (decide_eq_false (by omega)).symm | exact (decide_eq_true (by omega)).symm))
theorem impl_ydigit_ev (a : Int) : Ev (fun K _ => impl_ydigit.f K a) (pDigit a) := by
  refine Ev.fn (fun k => impl_ydigit.f_eq k a) ?_
  unfold pDigit
  exact Ev.ite (fun _ => Ev.some (by (first | rfl | exact decide_eq_decide.2 (by omega) | exact (decide_eq_false (by omega)).symm | exact (decide_eq_true (by omega)).symm))) fun _ => Ev.some (by (first | rfl | exact decide_eq_decide.2 (by omega) | exact (decide_eq_false (by omega)).symm | exact (decide_eq_true (by omega)).symm))
theorem spec_l1Letter_ev (a : Int) : Ev (fun K _ => spec_l1Letter.f K a) (pLetter a) := by
  refine Ev.fn (fun k => spec_l1Letter.f_eq k a) ?_
  unfold pLetter
  exact Ev.ite (fun _ => Ev.ite (fun _ => Ev.some (by (first | rfl | exact decide_eq_decide.2 (by omega) | exact (decide_eq_false (by omega)).symm | exact (decide_eq_true (by omega)).symm))) fun _ => Ev.ite (fun _ => Ev.some (by (first | rfl | exact decide_eq_decide.2 (by omega) | exact (decide_eq_false (by omega)).symm | exact (decide_eq_true (by omega)).symm))) fun _ => Ev.some (by (first | rfl | exact decide_eq_decide.2 (by omega) | exact (decide_eq_false (by omega)).symm | exact (decide_eq_true (by omega)).symm))) fun _ => Ev.ite (fun _ => Ev.some (by (first | rfl | exact decide_eq_decide.2 (by omega) | exact (decide_eq_false (by omega)).symm | exact (decide_eq_true (by omega)).symm))) fun _ => Ev.some (by (first | rfl | exact decide_eq_decide.2 (by omega) | exact (decide_eq_false (by omega)).symm | exact (decide_eq_true (by omega)).symm))
theorem impl_yletter_ev (a : Int) : Ev (fun K _ => impl_yletter.f K a) (pLetter a) := by
  refine Ev.fn (fun k => impl_yletter.f_eq k a) ?_
  unfold pLetter
  exact Ev.ite (fun _ => Ev.ite (fun _ => Ev.some (by (first | rfl | exact decide_eq_decide.2 (by omega) | exact (decide_eq_false (by omega)).symm | exact (decide_eq_true (by omega)).symm))) fun _ => Ev.ite (fun _ => Ev.some (by (first | rfl | exact decide_eq_decide.2 (by omega) | exact (decide_eq_false (by omega)).symm | exact (decide_eq_true (by omega)).symm))) fun _ => Ev.some (by (first | rfl | exact decide_eq_decide.2 (by omega) | exact (decide_eq_false (by omega)).symm | exact (decide_eq_true (by omega)).symm))) fun _ => Ev.ite (fun _ => Ev.some (by (first | rfl | exact decide_eq_decide.2 (by omega) | exact (decide_eq_false (by omega)).symm | exact (decide_eq_true (by omega)).symm))) fun _ => Ev.some (by (first | rfl | exact decide_eq_decide.2 (by omega) | exact (decide_eq_false (by omega)).symm | exact (decide_eq_true (by omega)).symm))
theorem impl_ywordByte_ev (a : Int) : Ev (fun K _ => impl_ywordByte.f K a) (pWord a) := by
  refine Ev.fn (fun k => impl_ywordByte.f_eq k a) ?_
  unfold pWord
  exact (impl_yletter_ev a).bind (Ev.ite (fun h => Ev.some (by rw [h]; rfl)) fun h => (impl_ydigit_ev a).bind (Ev.ite (fun g => Ev.some (by rw [g]; simp)) fun g => Ev.some (by rw [Bool.eq_false_iff.2 h, Bool.eq_false_iff.2 g]; rfl)))
theorem spec_GoodName_ev (s : ByteArray) (hs : s.size ≤ 140737488351232) : Ev (fun K _ => spec_GoodName.f K s) (goodName s) := by
  refine Ev.fn (fun k => spec_GoodName.f_eq k s) ?_
  unfold goodName
  refine Ev.ite (fun h => Ev.some (by rw [decide_eq_false (by omega)]; rfl)) fun h => Ev.ite (fun h' => Ev.some (by rw [decide_eq_false (by omega)]; rfl)) fun h' => Ev.yes (by omega) ((spec_l1Digit_ev _).bind ?_)
  rw [decide_eq_true (by omega), Bool.true_and]
  refine Ev.ite (fun g => Ev.some (by rw [g]; rfl)) fun g => ?_
  rw [Bool.eq_false_iff.2 g, Bool.not_false, Bool.true_and]
  refine Ev.diag (loop_all (L := fun K j i => spec_GoodName.l14 K j s i) (fun i h hp r hr => ?_) (fun i h hp => ?_) ?_)
  · refine Ev.lp (fun K j => spec_GoodName.l14_eq K j s i) (Ev.yes (by omega) (Ev.yes (by omega) ((spec_l1Letter_ev _).bind ?_)))
    rw [wrap_nat (by omega)]
    refine Ev.ite (fun _ => hr) fun h1 => Ev.yes (by omega) ((spec_l1Digit_ev _).bind (Ev.ite (fun _ => hr) fun h2 => Ev.yes (by omega) (Ev.ite (fun _ => hr) fun h3 => ?_)))
    exfalso
    unfold pWord at hp
    simp [h1, h2, h3] at hp
  · refine Ev.lp (fun K j => spec_GoodName.l14_eq K j s i) (Ev.yes (by omega) (Ev.yes (by omega) ((spec_l1Letter_ev _).bind ?_)))
    unfold pWord at hp
    simp only [Bool.or_eq_false_iff, decide_eq_false_iff_not] at hp
    exact Ev.no (by simp [hp.1.1]) (Ev.yes (by omega) ((spec_l1Digit_ev _).bind (Ev.no (by simp [hp.1.2]) (Ev.yes (by omega) (Ev.no hp.2 (Ev.now _))))))
  · exact Ev.lp (fun K j => spec_GoodName.l14_eq K j s _) (Ev.no (by omega) (Ev.now _))
theorem impl_GoodName_ev (s : ByteArray) (hs : s.size ≤ 140737488351232) : Ev (fun K _ => impl_GoodName.f K s) (goodName s) := by
  refine Ev.fn (fun k => impl_GoodName.f_eq k s) ?_
  unfold goodName
  refine Ev.ite (fun h => Ev.some (by rw [size_nil] at h; rw [decide_eq_false (by omega)]; rfl)) fun h => Ev.ite (fun h' => Ev.some (by rw [decide_eq_false (by omega)]; rfl)) fun h' => ?_
  rw [size_nil] at h
  refine Ev.yes (by omega) ((impl_ydigit_ev _).bind ?_)
  rw [decide_eq_true (by omega), Bool.true_and]
  refine Ev.ite (fun g => Ev.some (by rw [g]; rfl)) fun g => ?_
  rw [Bool.eq_false_iff.2 g, Bool.not_false, Bool.true_and]
  refine Ev.diag (loop_all (L := fun K j i => impl_GoodName.l14 K j s (s.size : Int) i) (fun i h hp r hr => ?_) (fun i h hp => ?_) ?_)
  · refine Ev.lp (fun K j => impl_GoodName.l14_eq K j s _ i) (Ev.yes (by omega) (Ev.yes (by omega) ((impl_ywordByte_ev _).bind (Ev.yes hp ?_))))
    rw [wrap_nat (by omega)]; exact hr
  · exact Ev.lp (fun K j => impl_GoodName.l14_eq K j s _ i) (Ev.yes (by omega) (Ev.yes (by omega) ((impl_ywordByte_ev _).bind (Ev.no (by simp [hp]) (Ev.now _)))))
  · exact Ev.lp (fun K j => impl_GoodName.l14_eq K j s _ _) (Ev.no (by omega) (Ev.now _))

/-! ### good atoms -/
def printed (s : ByteArray) : Bool := (bytesOf s).all fun b => decide (32 ≤ b ∧ b ≤ 126)
def goodAtom (a : Int × Int × ByteArray × ByteArray × Unit) : Bool :=
  if a.1 = 1 then decide (a.2.2.1.size = 0 ∧ a.2.2.2.1.size = 0 ∧ (a.2.1 = 0 ∨ a.2.1 = 1))
  else if a.1 = 2 then decide (a.2.2.1.size = 0 ∧ a.2.2.2.1.size = 0)
  else if a.1 = 5 then decide (a.2.2.1.size = 0 ∧ a.2.2.2.1.size = 0)
  else if a.1 = 3 then decide (a.2.1 = 0 ∧ a.2.2.2.1.size = 0 ∧ a.2.2.1.size ≤ 200) && printed a.2.2.1
  else if a.1 = 4 then decide (a.2.1 = 0) && (goodName a.2.2.2.1 && (decide (1 ≤ a.2.2.1.size ∧ a.2.2.1.size ≤ 200) && printed a.2.2.1))
  else if a.1 = 6 then decide (a.2.2.1.size = 0 ∧ a.2.2.2.1.size = 0 ∧ 0 ≤ a.2.1 ∧ a.2.1 % 64 ≤ 32 ∧ a.2.1 / 64 < 4294967296) && decide ((a.2.1 / 64) % 2 ^ (32 - a.2.1 % 64).toNat = 0)
  else if a.1 = 7 then decide (a.2.2.1.size = 0 ∧ a.2.2.2.1.size = 0 ∧ -100000000000 ≤ a.2.1 ∧ a.2.1 ≤ 100000000000)
  else false
theorem spec_l1Printed_ev (s : ByteArray) (hs : s.size ≤ 140737488351232) : Ev (fun K _ => spec_l1Printed.f K s) (printed s) := by
  refine Ev.fn (fun k => spec_l1Printed.f_eq k s) (Ev.diag (loop_all (L := fun K j i => spec_l1Printed.l6 K j s i) (fun i h hp r hr => ?_) (fun i h hp => ?_) ?_))
  · have hp := of_decide_eq_true hp
    refine Ev.lp (fun K j => spec_l1Printed.l6_eq K j s i) (Ev.yes (by omega) (Ev.yes (by omega) (Ev.no (by omega) (Ev.yes (by omega) (Ev.no (by omega) ?_)))))
    rw [wrap_nat (by omega)]; exact hr
  · have hp := of_decide_eq_false hp
    exact Ev.lp (fun K j => spec_l1Printed.l6_eq K j s i) (Ev.yes (by omega) (Ev.yes (by omega) (Ev.ite (fun _ => Ev.now _) fun _ => Ev.yes (by omega) (Ev.yes (by omega) (Ev.now _)))))
  · exact Ev.lp (fun K j => spec_l1Printed.l6_eq K j s _) (Ev.no (by omega) (Ev.now _))
theorem impl_yprinted_ev (s : ByteArray) (lo hi : Int) (hs : s.size ≤ 140737488351232) : Ev (fun K _ => impl_yprinted.f K s lo hi) (decide (lo ≤ s.size ∧ (s.size : Int) ≤ hi) && printed s) := by
  refine Ev.fn (fun k => impl_yprinted.f_eq k s lo hi) (Ev.ite (fun h => Ev.some (by rw [decide_eq_false (by omega)]; rfl)) fun h => Ev.ite (fun h' => Ev.some (by rw [decide_eq_false (by omega)]; rfl)) fun h' => ?_)
  rw [decide_eq_true (by omega), Bool.true_and]
  refine Ev.diag (loop_all (L := fun K j i => impl_yprinted.l14 K j s _ i) (fun i h hp r hr => ?_) (fun i h hp => ?_) ?_)
  · have hp := of_decide_eq_true hp
    refine Ev.lp (fun K j => impl_yprinted.l14_eq K j s _ i) (Ev.yes (by omega) (Ev.yes (by omega) (Ev.no (by omega) (Ev.yes (by omega) (Ev.no (by omega) ?_)))))
    rw [wrap_nat (by omega)]; exact hr
  · have hp := of_decide_eq_false hp
    exact Ev.lp (fun K j => impl_yprinted.l14_eq K j s _ i) (Ev.yes (by omega) (Ev.yes (by omega) (Ev.ite (fun _ => Ev.now _) fun _ => Ev.yes (by omega) (Ev.yes (by omega) (Ev.now _)))))
  · exact Ev.lp (fun K j => impl_yprinted.l14_eq K j s _ _) (Ev.no (by omega) (Ev.now _))
theorem pow_pos' (m : Nat) : (0 : Int) < 2 ^ m := Int.pow_pos (by decide)
theorem pow_mono {a b : Nat} (h : a ≤ b) : (2 : Int) ^ a ≤ 2 ^ b := by
  obtain ⟨d, rfl⟩ := Nat.exists_eq_add_of_le h
  rw [Int.pow_add]
  have h1 := pow_pos' a
  have h2 := pow_pos' d
  have : (2 : Int) ^ a * 1 ≤ 2 ^ a * 2 ^ d := Int.mul_le_mul_of_nonneg_left (by omega) (by omega)
  omega
theorem spec_l1Pow2_l (n : Nat) (hn : n ≤ 60) : ∀ (d i : Nat), n = i + d → Ev (fun K j => spec_l1Pow2.l8 K j (n : Int) (2 ^ i) (i : Int)) (2 ^ n) := by
  intro d
  induction d with
  | zero =>
    intro i h
    refine Ev.lp (fun K j => spec_l1Pow2.l8_eq K j _ _ _) (Ev.no (by omega) (Ev.some ?_))
    rw [h]; rfl
  | succ d ih =>
    intro i h
    refine Ev.lp (fun K j => spec_l1Pow2.l8_eq K j _ _ _) (Ev.yes (by omega) ?_)
    have z := ih (i + 1) (by omega)
    have h1 := pow_pos' (i + 1)
    have h2 := pow_mono (show i + 1 ≤ 61 by omega)
    rw [wrap_nat (by omega), show wrap64 (2 ^ i * 2) = 2 ^ (i + 1) from by rw [← Int.pow_succ]; exact wrap_id (by omega) (by omega)]
    exact z
theorem spec_l1Pow2_ev (m : Int) (h0 : 0 ≤ m) (h1 : m ≤ 60) : Ev (fun K _ => spec_l1Pow2.f K m) (2 ^ m.toNat) := by
  obtain ⟨n, rfl⟩ := Int.eq_ofNat_of_zero_le h0
  rw [Int.toNat_natCast]
  exact Ev.fn (fun k => spec_l1Pow2.f_eq k _) (Ev.diag (spec_l1Pow2_l n (by omega) n 0 (by omega)))
theorem tdiv64 {n : Int} (h0 : 0 ≤ n) (h1 : n < 9223372036854775808) : wrap64 (quoI n 64) = n / 64 := by
  unfold quoI; rw [Int.tdiv_eq_ediv_of_nonneg h0]; exact wrap_id (by omega) (by omega)
theorem tmod64 {n : Int} (h0 : 0 ≤ n) : remI n 64 = n % 64 := Int.tmod_eq_emod_of_nonneg h0
theorem bits_left {n : Int} (h : n % 64 ≤ 32) : wrap64 (32 - n % 64) = 32 - n % 64 := wrap_id (by omega) (by omega)
theorem two_small (m : Int) (h : m ≤ 32) : (0 : Int) < 2 ^ m.toNat ∧ (2 : Int) ^ m.toNat ≤ 4294967296 := by
  refine ⟨pow_pos' _, ?_⟩
  have := pow_mono (show m.toNat ≤ 32 by omega)
  omega
theorem wraps_i64 (x : Int) (h0 : -9223372036854775808 ≤ x) (h1 : x ≤ 9223372036854775807) : IntKind.i64.wrap x = x := by
  have := wrap_id h0 h1
  unfold wrap64 at this
  unfold IntKind.wrap
  simp [IntKind.bits, IntKind.signed] at *
  omega
theorem shl_one (m : Int) (h0 : 0 ≤ m) (h : m ≤ 32) : shlI .i64 1 m = 2 ^ m.toNat := by
  unfold shlI
  have h2 := two_small m h
  rw [Nat.min_eq_left (by simp [IntKind.bits]; omega), Int.one_mul]
  exact wraps_i64 _ (by omega) (by omega)
theorem spec_l1Block_ev (a : Int × Int × ByteArray × ByteArray × Unit) (h0 : 0 ≤ a.2.1) (h1 : a.2.1 < 9223372036854775808) (h : a.2.1 % 64 ≤ 32) : Ev (fun K _ => spec_l1Block.f K a) (a.2.1 / 64, 2 ^ (32 - a.2.1 % 64).toNat, ()) := by
  refine Ev.fn (fun k => spec_l1Block.f_eq k a) ?_
  rw [tmod64 h0, bits_left h, tdiv64 h0 h1]
  exact (spec_l1Pow2_ev (32 - a.2.1 % 64) (by omega) (by omega)).bind (Ev.now _)
theorem goodAtom1 {a : Int × Int × ByteArray × ByteArray × Unit} (h : a.1 = 1) : goodAtom a = decide (a.2.2.1.size = 0 ∧ a.2.2.2.1.size = 0 ∧ (a.2.1 = 0 ∨ a.2.1 = 1)) := by
  unfold goodAtom; rw [if_pos h]
theorem goodAtom2 {a : Int × Int × ByteArray × ByteArray × Unit} (h : a.1 = 2) : goodAtom a = decide (a.2.2.1.size = 0 ∧ a.2.2.2.1.size = 0) := by
  unfold goodAtom; rw [if_neg (by omega), if_pos h]
theorem goodAtom5 {a : Int × Int × ByteArray × ByteArray × Unit} (h : a.1 = 5) : goodAtom a = decide (a.2.2.1.size = 0 ∧ a.2.2.2.1.size = 0) := by
  unfold goodAtom; rw [if_neg (by omega), if_neg (by omega), if_pos h]
theorem goodAtom3 {a : Int × Int × ByteArray × ByteArray × Unit} (h : a.1 = 3) : goodAtom a = (decide (a.2.1 = 0 ∧ a.2.2.2.1.size = 0 ∧ a.2.2.1.size ≤ 200) && printed a.2.2.1) := by
  unfold goodAtom; rw [if_neg (by omega), if_neg (by omega), if_neg (by omega), if_pos h]
theorem goodAtom4 {a : Int × Int × ByteArray × ByteArray × Unit} (h : a.1 = 4) : goodAtom a = (decide (a.2.1 = 0) && (goodName a.2.2.2.1 && (decide (1 ≤ a.2.2.1.size ∧ a.2.2.1.size ≤ 200) && printed a.2.2.1))) := by
  unfold goodAtom; rw [if_neg (by omega), if_neg (by omega), if_neg (by omega), if_neg (by omega), if_pos h]
theorem goodAtom6 {a : Int × Int × ByteArray × ByteArray × Unit} (h : a.1 = 6) : goodAtom a = (decide (a.2.2.1.size = 0 ∧ a.2.2.2.1.size = 0 ∧ 0 ≤ a.2.1 ∧ a.2.1 % 64 ≤ 32 ∧ a.2.1 / 64 < 4294967296) && decide ((a.2.1 / 64) % 2 ^ (32 - a.2.1 % 64).toNat = 0)) := by
  unfold goodAtom; rw [if_neg (by omega), if_neg (by omega), if_neg (by omega), if_neg (by omega), if_neg (by omega), if_pos h]
theorem goodAtom7 {a : Int × Int × ByteArray × ByteArray × Unit} (h : a.1 = 7) : goodAtom a = decide (a.2.2.1.size = 0 ∧ a.2.2.2.1.size = 0 ∧ -100000000000 ≤ a.2.1 ∧ a.2.1 ≤ 100000000000) := by
  unfold goodAtom; rw [if_neg (by omega), if_neg (by omega), if_neg (by omega), if_neg (by omega), if_neg (by omega), if_neg (by omega), if_pos h]
theorem goodAtom0 {a : Int × Int × ByteArray × ByteArray × Unit} (h : a.1 ≠ 1 ∧ a.1 ≠ 2 ∧ a.1 ≠ 3 ∧ a.1 ≠ 4 ∧ a.1 ≠ 5 ∧ a.1 ≠ 6 ∧ a.1 ≠ 7) : goodAtom a = false := by
  unfold goodAtom; rw [if_neg (by omega), if_neg (by omega), if_neg (by omega), if_neg (by omega), if_neg (by omega), if_neg (by omega), if_neg (by omega)]
theorem spec_GoodAtom_ev (a : Int × Int × ByteArray × ByteArray × Unit) (hn : -9223372036854775808 ≤ a.2.1) (hn' : a.2.1 < 9223372036854775808) (ht : a.2.2.1.size ≤ 140737488351232) (hy : a.2.2.2.1.size ≤ 140737488351232) : Ev (fun K _ => spec_GoodAtom.f K a) (goodAtom a) := by
  refine Ev.fn (fun k => spec_GoodAtom.f_eq k a) ?_
  simp only [size_nil]
  by_cases hE : a.2.2.1.size = 0 <;> by_cases hY : a.2.2.2.1.size = 0
  all_goals
    by_cases k1 : a.1 = 1
    · rw [goodAtom1 k1]; (repeat (first | exact Ev.some (by (first | rfl | exact decide_eq_decide.2 (by omega) | exact (decide_eq_false (by omega)).symm | exact (decide_eq_true (by omega)).symm)) | exact Ev.some (by rw [decide_eq_false (by omega)]; rfl) | refine Ev.yes (by omega) ?_ | refine Ev.no (by omega) ?_)) <;> exact Ev.ite (fun _ => Ev.some (by (first | rfl | exact decide_eq_decide.2 (by omega) | exact (decide_eq_false (by omega)).symm | exact (decide_eq_true (by omega)).symm))) fun _ => Ev.some (by (first | rfl | exact decide_eq_decide.2 (by omega) | exact (decide_eq_false (by omega)).symm | exact (decide_eq_true (by omega)).symm))
    by_cases k2 : a.1 = 2
    · rw [goodAtom2 k2]; (repeat (first | exact Ev.some (by (first | rfl | exact decide_eq_decide.2 (by omega) | exact (decide_eq_false (by omega)).symm | exact (decide_eq_true (by omega)).symm)) | exact Ev.some (by rw [decide_eq_false (by omega)]; rfl) | refine Ev.yes (by omega) ?_ | refine Ev.no (by omega) ?_))
    by_cases k5 : a.1 = 5
    · rw [goodAtom5 k5]; (repeat (first | exact Ev.some (by (first | rfl | exact decide_eq_decide.2 (by omega) | exact (decide_eq_false (by omega)).symm | exact (decide_eq_true (by omega)).symm)) | exact Ev.some (by rw [decide_eq_false (by omega)]; rfl) | refine Ev.yes (by omega) ?_ | refine Ev.no (by omega) ?_))
    by_cases k3 : a.1 = 3
    · rw [goodAtom3 k3]
      by_cases z : a.2.1 = 0 ∧ a.2.2.2.1.size = 0 ∧ a.2.2.1.size ≤ 200
      · first
        | (exfalso; omega)
        | (rw [decide_eq_true z, Bool.true_and]; (repeat (first | exact Ev.some (by (first | rfl | exact decide_eq_decide.2 (by omega) | exact (decide_eq_false (by omega)).symm | exact (decide_eq_true (by omega)).symm)) | exact Ev.some (by rw [decide_eq_false (by omega)]; rfl) | refine Ev.yes (by omega) ?_ | refine Ev.no (by omega) ?_)); exact Ev.tail (spec_l1Printed_ev _ ht))
      · rw [decide_eq_false z, Bool.false_and]; (repeat (first | exact Ev.some (by (first | rfl | exact decide_eq_decide.2 (by omega) | exact (decide_eq_false (by omega)).symm | exact (decide_eq_true (by omega)).symm)) | exact Ev.some (by rw [decide_eq_false (by omega)]; rfl) | refine Ev.yes (by omega) ?_ | refine Ev.no (by omega) ?_)) <;> exact Ev.ite (fun _ => Ev.no (by omega) (Ev.now _)) fun _ => Ev.now _
    by_cases k4 : a.1 = 4
    · rw [goodAtom4 k4]
      by_cases z : a.2.1 = 0
      · rw [decide_eq_true z, Bool.true_and]; (repeat (first | exact Ev.some (by (first | rfl | exact decide_eq_decide.2 (by omega) | exact (decide_eq_false (by omega)).symm | exact (decide_eq_true (by omega)).symm)) | exact Ev.some (by rw [decide_eq_false (by omega)]; rfl) | refine Ev.yes (by omega) ?_ | refine Ev.no (by omega) ?_))
        refine (spec_GoodName_ev _ hy).bind (Ev.ite (fun g => ?_) fun g => Ev.some (by rw [Bool.eq_false_iff.2 g]; rfl))
        rw [g, Bool.true_and]
        by_cases s : 1 ≤ a.2.2.1.size ∧ a.2.2.1.size ≤ 200
        · rw [decide_eq_true s, Bool.true_and]; (repeat (first | exact Ev.some (by (first | rfl | exact decide_eq_decide.2 (by omega) | exact (decide_eq_false (by omega)).symm | exact (decide_eq_true (by omega)).symm)) | exact Ev.some (by rw [decide_eq_false (by omega)]; rfl) | refine Ev.yes (by omega) ?_ | refine Ev.no (by omega) ?_)); try exact Ev.tail (spec_l1Printed_ev _ ht)
        · rw [decide_eq_false s, Bool.false_and]; (repeat (first | exact Ev.some (by (first | rfl | exact decide_eq_decide.2 (by omega) | exact (decide_eq_false (by omega)).symm | exact (decide_eq_true (by omega)).symm)) | exact Ev.some (by rw [decide_eq_false (by omega)]; rfl) | refine Ev.yes (by omega) ?_ | refine Ev.no (by omega) ?_)) <;> exact Ev.ite (fun _ => Ev.no (by omega) (Ev.now _)) fun _ => Ev.now _
      · rw [decide_eq_false z, Bool.false_and]; (repeat (first | exact Ev.some (by (first | rfl | exact decide_eq_decide.2 (by omega) | exact (decide_eq_false (by omega)).symm | exact (decide_eq_true (by omega)).symm)) | exact Ev.some (by rw [decide_eq_false (by omega)]; rfl) | refine Ev.yes (by omega) ?_ | refine Ev.no (by omega) ?_))
    by_cases k6 : a.1 = 6
    · rw [goodAtom6 k6]
      (repeat (first | exact Ev.some (by (first | rfl | exact decide_eq_decide.2 (by omega) | exact (decide_eq_false (by omega)).symm | exact (decide_eq_true (by omega)).symm)) | exact Ev.some (by rw [decide_eq_false (by omega)]; rfl) | refine Ev.yes (by omega) ?_ | refine Ev.no (by omega) ?_))
      all_goals
        refine Ev.ite (fun hz => Ev.some (by rw [decide_eq_false (by omega)]; rfl)) fun hz => (spec_l1Pow2_ev 32 (by omega) (by omega)).bind ?_
        rw [tdiv64 (by omega) (by omega), tmod64 (by omega), show wrap64 (2 ^ (32 : Int).toNat - 1) = 4294967295 from by kernel_rfl]
        refine Ev.ite (fun hf => Ev.some (by rw [decide_eq_false (by omega)]; rfl)) fun hf => Ev.ite (fun hl => Ev.some (by rw [decide_eq_false (by omega)]; rfl)) fun hl => ?_
        rw [decide_eq_true (by omega), Bool.true_and]
        refine (spec_l1Block_ev a (by omega) hn' (by omega)).bind ?_
        have h2 := two_small (32 - a.2.1 % 64) (by omega)
        refine Ev.no (show ¬ ((2 : Int) ^ (32 - a.2.1 % 64).toNat = 0) by omega) (Ev.some ?_)
        unfold remI
        rw [Int.tmod_eq_emod_of_nonneg (by omega)]
    by_cases k7 : a.1 = 7
    · rw [goodAtom7 k7]; (repeat (first | exact Ev.some (by (first | rfl | exact decide_eq_decide.2 (by omega) | exact (decide_eq_false (by omega)).symm | exact (decide_eq_true (by omega)).symm)) | exact Ev.some (by rw [decide_eq_false (by omega)]; rfl) | refine Ev.yes (by omega) ?_ | refine Ev.no (by omega) ?_)) <;> exact Ev.ite (fun _ => Ev.some (by (first | rfl | exact decide_eq_decide.2 (by omega) | exact (decide_eq_false (by omega)).symm | exact (decide_eq_true (by omega)).symm))) fun _ => Ev.some (by (first | rfl | exact decide_eq_decide.2 (by omega) | exact (decide_eq_false (by omega)).symm | exact (decide_eq_true (by omega)).symm))
    rw [goodAtom0 ⟨k1, k2, k3, k4, k5, k6, k7⟩]; (repeat (first | exact Ev.some (by (first | rfl | exact decide_eq_decide.2 (by omega) | exact (decide_eq_false (by omega)).symm | exact (decide_eq_true (by omega)).symm)) | exact Ev.some (by rw [decide_eq_false (by omega)]; rfl) | refine Ev.yes (by omega) ?_ | refine Ev.no (by omega) ?_))
theorem impl_GoodAtom_ev (a : Int × Int × ByteArray × ByteArray × Unit) (hn : -9223372036854775808 ≤ a.2.1) (hn' : a.2.1 < 9223372036854775808) (ht : a.2.2.1.size ≤ 140737488351232) (hy : a.2.2.2.1.size ≤ 140737488351232) : Ev (fun K _ => impl_GoodAtom.f K a) (goodAtom a) := by
  refine Ev.fn (fun k => impl_GoodAtom.f_eq k a) ?_
  simp only [size_nil]
  by_cases hE : a.2.2.1.size = 0 <;> by_cases hY : a.2.2.2.1.size = 0
  all_goals
    by_cases k1 : a.1 = 1
    · rw [goodAtom1 k1]; (repeat (first | exact Ev.some (by (first | rfl | exact decide_eq_decide.2 (by omega) | exact (decide_eq_false (by omega)).symm | exact (decide_eq_true (by omega)).symm)) | exact Ev.some (by rw [decide_eq_false (by omega)]; rfl) | refine Ev.yes (by omega) ?_ | refine Ev.no (by omega) ?_)) <;> exact Ev.ite (fun _ => Ev.some (by (first | rfl | exact decide_eq_decide.2 (by omega) | exact (decide_eq_false (by omega)).symm | exact (decide_eq_true (by omega)).symm))) fun _ => Ev.some (by (first | rfl | exact decide_eq_decide.2 (by omega) | exact (decide_eq_false (by omega)).symm | exact (decide_eq_true (by omega)).symm))
    by_cases k2 : a.1 = 2
    · rw [goodAtom2 k2]; (repeat (first | exact Ev.some (by (first | rfl | exact decide_eq_decide.2 (by omega) | exact (decide_eq_false (by omega)).symm | exact (decide_eq_true (by omega)).symm)) | exact Ev.some (by rw [decide_eq_false (by omega)]; rfl) | refine Ev.yes (by omega) ?_ | refine Ev.no (by omega) ?_))
    by_cases k5 : a.1 = 5
    · rw [goodAtom5 k5]; (repeat (first | exact Ev.some (by (first | rfl | exact decide_eq_decide.2 (by omega) | exact (decide_eq_false (by omega)).symm | exact (decide_eq_true (by omega)).symm)) | exact Ev.some (by rw [decide_eq_false (by omega)]; rfl) | refine Ev.yes (by omega) ?_ | refine Ev.no (by omega) ?_))
    by_cases k3 : a.1 = 3
    · rw [goodAtom3 k3]
      by_cases z : a.2.1 = 0 ∧ a.2.2.2.1.size = 0
      · rw [show decide (a.2.1 = 0 ∧ a.2.2.2.1.size = 0 ∧ a.2.2.1.size ≤ 200) = decide ((0 : Int) ≤ a.2.2.1.size ∧ (a.2.2.1.size : Int) ≤ 200) from decide_eq_decide.2 (by omega)]
        (repeat (first | exact Ev.some (by (first | rfl | exact decide_eq_decide.2 (by omega) | exact (decide_eq_false (by omega)).symm | exact (decide_eq_true (by omega)).symm)) | exact Ev.some (by rw [decide_eq_false (by omega)]; rfl) | refine Ev.yes (by omega) ?_ | refine Ev.no (by omega) ?_)) <;> first | exact Ev.tail (impl_yprinted_ev _ _ _ ht) | (exfalso; omega)
      · rw [show decide (a.2.1 = 0 ∧ a.2.2.2.1.size = 0 ∧ a.2.2.1.size ≤ 200) = false from decide_eq_false (by omega), Bool.false_and]; (repeat (first | exact Ev.some (by (first | rfl | exact decide_eq_decide.2 (by omega) | exact (decide_eq_false (by omega)).symm | exact (decide_eq_true (by omega)).symm)) | exact Ev.some (by rw [decide_eq_false (by omega)]; rfl) | refine Ev.yes (by omega) ?_ | refine Ev.no (by omega) ?_)) <;> exact Ev.ite (fun _ => Ev.no (by omega) (Ev.now _)) fun _ => Ev.now _
    by_cases k4 : a.1 = 4
    · rw [goodAtom4 k4]
      by_cases z : a.2.1 = 0
      · rw [decide_eq_true z, Bool.true_and]; (repeat (first | exact Ev.some (by (first | rfl | exact decide_eq_decide.2 (by omega) | exact (decide_eq_false (by omega)).symm | exact (decide_eq_true (by omega)).symm)) | exact Ev.some (by rw [decide_eq_false (by omega)]; rfl) | refine Ev.yes (by omega) ?_ | refine Ev.no (by omega) ?_))
        refine (impl_GoodName_ev _ hy).bind (Ev.ite (fun g => ?_) fun g => Ev.some (by rw [Bool.eq_false_iff.2 g]; rfl))
        rw [g, Bool.true_and, show decide (1 ≤ a.2.2.1.size ∧ a.2.2.1.size ≤ 200) = decide ((1 : Int) ≤ a.2.2.1.size ∧ (a.2.2.1.size : Int) ≤ 200) from decide_eq_decide.2 (by omega)]
        exact Ev.tail (impl_yprinted_ev _ _ _ ht)
      · rw [decide_eq_false z, Bool.false_and]; (repeat (first | exact Ev.some (by (first | rfl | exact decide_eq_decide.2 (by omega) | exact (decide_eq_false (by omega)).symm | exact (decide_eq_true (by omega)).symm)) | exact Ev.some (by rw [decide_eq_false (by omega)]; rfl) | refine Ev.yes (by omega) ?_ | refine Ev.no (by omega) ?_))
    by_cases k6 : a.1 = 6
    · rw [goodAtom6 k6]
      (repeat (first | exact Ev.some (by (first | rfl | exact decide_eq_decide.2 (by omega) | exact (decide_eq_false (by omega)).symm | exact (decide_eq_true (by omega)).symm)) | exact Ev.some (by rw [decide_eq_false (by omega)]; rfl) | refine Ev.yes (by omega) ?_ | refine Ev.no (by omega) ?_))
      all_goals
        refine Ev.ite (fun hz => Ev.some (by rw [decide_eq_false (by omega)]; rfl)) fun hz => ?_
        rw [tdiv64 (by omega) (by omega), tmod64 (by omega)]
        refine Ev.ite (fun hl => Ev.ite (fun hf => ?_) fun hf => Ev.some (by rw [decide_eq_false (by omega)]; rfl)) fun hl => Ev.some (by rw [decide_eq_false (by omega)]; rfl)
        rw [show decide (a.2.2.1.size = 0 ∧ a.2.2.2.1.size = 0 ∧ 0 ≤ a.2.1 ∧ a.2.1 % 64 ≤ 32 ∧ a.2.1 / 64 < 4294967296) = true from decide_eq_true (by omega), Bool.true_and, bits_left hl, shl_one _ (by omega) (by omega)]
        have h2 := two_small (32 - a.2.1 % 64) (by omega)
        refine Ev.no (by omega) (Ev.no (by omega) (Ev.some ?_))
        unfold remI
        rw [Int.tmod_eq_emod_of_nonneg (by omega)]
    by_cases k7 : a.1 = 7
    · rw [goodAtom7 k7]; (repeat (first | exact Ev.some (by (first | rfl | exact decide_eq_decide.2 (by omega) | exact (decide_eq_false (by omega)).symm | exact (decide_eq_true (by omega)).symm)) | exact Ev.some (by rw [decide_eq_false (by omega)]; rfl) | refine Ev.yes (by omega) ?_ | refine Ev.no (by omega) ?_)) <;> exact Ev.ite (fun _ => Ev.some (by (first | rfl | exact decide_eq_decide.2 (by omega) | exact (decide_eq_false (by omega)).symm | exact (decide_eq_true (by omega)).symm))) fun _ => Ev.some (by (first | rfl | exact decide_eq_decide.2 (by omega) | exact (decide_eq_false (by omega)).symm | exact (decide_eq_true (by omega)).symm))
    rw [goodAtom0 ⟨k1, k2, k3, k4, k5, k6, k7⟩]; (repeat (first | exact Ev.some (by (first | rfl | exact decide_eq_decide.2 (by omega) | exact (decide_eq_false (by omega)).symm | exact (decide_eq_true (by omega)).symm)) | exact Ev.some (by rw [decide_eq_false (by omega)]; rfl) | refine Ev.yes (by omega) ?_ | refine Ev.no (by omega) ?_))

abbrev spec_GoodName.v (s : ByteArray) : Bool := goodName s
theorem spec_GoodName.v_ev (s : ByteArray) (f : fitSh .str s) : EvF .bool (fun K _ => spec_GoodName.f K s) (spec_GoodName.v s) := ⟨spec_GoodName_ev s f, trivial⟩
abbrev impl_GoodName.v (s : ByteArray) : Bool := goodName s
theorem impl_GoodName.v_ev (s : ByteArray) (f : fitSh .str s) : EvF .bool (fun K _ => impl_GoodName.f K s) (impl_GoodName.v s) := ⟨impl_GoodName_ev s f, trivial⟩

abbrev spec_GoodAtom.v (a : Int × Int × ByteArray × ByteArray × Unit) : Bool := goodAtom a
abbrev impl_GoodAtom.v (a : Int × Int × ByteArray × ByteArray × Unit) : Bool := goodAtom a
theorem spec_GoodAtom.v_ev (a : T54) (f : fitSh S54 a) : EvF .bool (fun K _ => spec_GoodAtom.f K a) (spec_GoodAtom.v a) := by
  have w := i64_of f.2.1
  exact ⟨spec_GoodAtom_ev a w.1 (by omega) f.2.2.1 f.2.2.2.1, trivial⟩
theorem impl_GoodAtom.v_ev (a : T54) (f : fitSh S54 a) : EvF .bool (fun K _ => impl_GoodAtom.f K a) (impl_GoodAtom.v a) := by
  have w := i64_of f.2.1
  exact ⟨impl_GoodAtom_ev a w.1 (by omega) f.2.2.1 f.2.2.2.1, trivial⟩

/-! ### the order of pairs of texts -/
theorem cmpL_trans : ∀ (a b c : List Int), cmpL a b < 0 → cmpL b c < 0 → cmpL a c < 0
  | [], [], _, h, _ => by simp [cmpL] at h
  | [], _ :: _, [], _, h => by simp [cmpL] at h
  | [], _ :: _, _ :: _, _, _ => by simp [cmpL]
  | _ :: _, [], _, h, _ => by simp [cmpL] at h
  | _ :: _, _ :: _, [], _, h => by simp [cmpL] at h
  | x :: a, y :: b, z :: c, h1, h2 => by
    unfold cmpL at h1 h2 ⊢
    by_cases e1 : x = y
    · subst e1
      rw [if_pos rfl] at h1
      by_cases e2 : x = z
      · rw [if_pos e2] at h2 ⊢
        exact cmpL_trans a b c h1 h2
      · rw [if_neg e2] at h2 ⊢
        exact h2
    · rw [if_neg e1] at h1
      by_cases e2 : y = z
      · subst e2
        rw [if_neg e1]; exact h1
      · rw [if_neg e2] at h2
        have l1 : x < y := by
          by_cases q : x < y
          · exact q
          · rw [if_neg q] at h1; omega
        have l2 : y < z := by
          by_cases q : y < z
          · exact q
          · rw [if_neg q] at h2; omega
        rw [if_neg (by omega), if_pos (by omega)]; omega
theorem cmpT_trans {a b c : ByteArray} (h1 : cmpT a b < 0) (h2 : cmpT b c < 0) : cmpT a c < 0 := cmpL_trans _ _ _ h1 h2
theorem cmpT_anti (a b : ByteArray) : cmpT b a = - cmpT a b := cmpL_anti _ _
theorem cmpT_self (a : ByteArray) : cmpT a a = 0 := cmpT_zero.2 rfl
def kc (a b : ByteArray × ByteArray) : Int := if cmpT a.1 b.1 = 0 then cmpT a.2 b.2 else cmpT a.1 b.1
theorem kc_zero {a b : ByteArray × ByteArray} : kc a b = 0 ↔ a = b := by
  unfold kc
  constructor
  · intro h
    by_cases q : cmpT a.1 b.1 = 0
    · rw [if_pos q] at h
      exact Prod.ext (cmpT_zero.1 q) (cmpT_zero.1 h)
    · rw [if_neg q] at h; exact absurd h q
  · rintro rfl
    rw [if_pos (cmpT_self _), cmpT_self]
theorem kc_anti (a b : ByteArray × ByteArray) : kc b a = - kc a b := by
  unfold kc
  rw [cmpT_anti a.1 b.1, cmpT_anti a.2 b.2]
  by_cases q : cmpT a.1 b.1 = 0
  · rw [if_pos q, if_pos (by omega)]
  · rw [if_neg q, if_neg (by omega)]
theorem kc_trans {a b c : ByteArray × ByteArray} (h1 : kc a b < 0) (h2 : kc b c < 0) : kc a c < 0 := by
  unfold kc at *
  by_cases q1 : cmpT a.1 b.1 = 0
  · rw [if_pos q1] at h1
    have e1 := cmpT_zero.1 q1
    rw [e1]
    by_cases q2 : cmpT b.1 c.1 = 0
    · rw [if_pos q2] at h2 ⊢; exact cmpT_trans h1 h2
    · rw [if_neg q2] at h2 ⊢; exact h2
  · rw [if_neg q1] at h1
    by_cases q2 : cmpT b.1 c.1 = 0
    · have e2 := cmpT_zero.1 q2
      rw [← e2, if_neg q1]; exact h1
    · rw [if_neg q2] at h2
      have := cmpT_trans h1 h2
      rw [if_neg (by omega)]; exact this
theorem kc_swo {α : Type} (f : α → ByteArray × ByteArray) : Go.Sort.SWO (Go.Proofs.ltOf fun x y => kc (f x) (f y)) := by
  refine ⟨fun x => ?_, fun x y z => ?_, fun x y z => ?_⟩ <;> unfold Go.Proofs.ltOf
  · have : kc (f x) (f x) = 0 := kc_zero.2 rfl
    show decide (kc (f x) (f x) < 0) = false
    rw [this]; rfl
  · intro h1 h2
    simp only [decide_eq_true_eq] at *
    exact kc_trans h1 h2
  · intro h1 h2
    simp only [decide_eq_false_iff_not] at *
    intro h3
    by_cases q : kc (f x) (f y) = 0
    · rw [kc_zero.1 q] at h3; exact h2 h3
    · have : kc (f y) (f x) < 0 := by rw [kc_anti]; omega
      exact h2 (kc_trans this h3)

/-! ### the law's measure -/
def SzP (g : Nat → Nat → Option Int) (m : Int) (P : Prop) : Prop := ∃ r, Ev g r ∧ -1 ≤ r ∧ r ≤ m ∧ (0 ≤ r → P)
theorem SzP.now {r m : Int} {P : Prop} (h : -1 ≤ r) (h1 : r ≤ m) (p : P) : SzP (fun _ _ => some r) m P := ⟨r, Ev.now _, h, h1, fun _ => p⟩
theorem SzP.cut {c : Prop} {inst : Decidable c} {B : Nat → Nat → Option Int} {m : Int} {P : Prop} (hm : -1 ≤ m) (h : ¬ c → SzP B m P) : SzP (fun K j => @ite _ c inst (some (-1)) (B K j)) m P := by
  by_cases e : c
  · exact ⟨-1, Ev.yes e (Ev.now _), by omega, hm, fun h => by omega⟩
  · obtain ⟨r, q, q1, q2, q3⟩ := h e
    exact ⟨r, Ev.no e q, q1, q2, q3⟩
theorem SzP.bind {g : Nat → Nat → Option Int} {f : Nat → Nat → Int → Option Int} {m m' : Int} {P P' : Prop} (h : SzP g m' P') (hm : -1 ≤ m) (k : ∀ r, 0 ≤ r → r ≤ m' → P' → SzP (fun K j => f K j r) m P) :
    SzP (fun K j => (g K j).bind fun t => if t < 0 then some (-1) else f K j t) m P := by
  obtain ⟨r, q, q1, q2, q3⟩ := h
  by_cases e : r < 0
  · exact ⟨-1, q.bind (Ev.yes e (Ev.now _)), by omega, hm, fun h => by omega⟩
  · obtain ⟨s, z, z1, z2, z3⟩ := k r (by omega) q2 (q3 (by omega))
    exact ⟨s, q.bind (Ev.no e z), z1, z2, z3⟩
theorem SzP.fn {f B : Nat → Option Int} {m : Int} {P : Prop} (e : ∀ k, f (k + 1) = B k) (h : SzP (fun K _ => B K) m P) : SzP (fun K _ => f K) m P := by
  obtain ⟨r, q, q1, q2, q3⟩ := h; exact ⟨r, Ev.fn e q, q1, q2, q3⟩
theorem SzP.imp {g : Nat → Nat → Option Int} {m m' : Int} {P P' : Prop} (h : SzP g m P) (hm : m ≤ m') (hp : P → P') : SzP g m' P' := by
  obtain ⟨r, q, q1, q2, q3⟩ := h; exact ⟨r, q, q1, by omega, fun z => hp (q3 z)⟩

/-! ### the library's sort -/
theorem ev_all {α : Type} {P : Nat → α → Prop} : ∀ {l : List α}, (∀ x ∈ l, ∃ n, ∀ K, n ≤ K → P K x) → ∃ n, ∀ x ∈ l, ∀ K, n ≤ K → P K x
  | [], _ => ⟨0, fun x hx => by cases hx⟩
  | a :: l, h => by
    obtain ⟨n, hn⟩ := h a List.mem_cons_self
    obtain ⟨m, hm⟩ := ev_all (l := l) fun x hx => h x (List.mem_cons_of_mem _ hx)
    refine ⟨max n m, fun x hx K hK => ?_⟩
    rcases List.mem_cons.1 hx with rfl | hx
    · exact hn K (by omega)
    · exact hm x hx K (by omega)
theorem swo_val {α : Type} {cf : α → α → Int} (hO : Go.Sort.SWO (Go.Proofs.ltOf cf)) (p : α → Prop) : Go.Sort.SWO (Go.Proofs.ltOf fun x y : {x // p x} => cf x.1 y.1) :=
  ⟨fun x => hO.irrefl x.1, fun x y z => hO.trans x.1 y.1 z.1, fun x y z => hO.ntrans x.1 y.1 z.1⟩
theorem Ev.sort {α : Type} {c : Nat → α → α → Option Int} {cf : α → α → Int} {l : List α} (h : ∀ x ∈ l, ∀ y ∈ l, Ev (fun K _ => c K x y) (cf x y)) (hO : Go.Sort.SWO (Go.Proofs.ltOf cf)) :
    ∃ l2, Ev (fun K _ => sortF (c K) l) l2 ∧ l2.Perm l ∧ l2.Pairwise (fun a b => ¬ cf b a < 0) := by
  have hO' := swo_val hO (fun x => x ∈ l)
  obtain ⟨n, hn⟩ := ev_all (l := l) (P := fun K x => ∀ y ∈ l, c K x y = some (cf x y)) fun x hx => by
    obtain ⟨n, hn⟩ := ev_all (l := l) (P := fun K y => c K x y = some (cf x y)) fun y hy => by
      obtain ⟨n, hn⟩ := h x hx y hy
      exact ⟨n, fun K hK => hn K n hK (Nat.le_refl _)⟩
    exact ⟨n, fun K hK y hy => hn y hy K hK⟩
  have hS : ∀ K, n ≤ K → SortsBy (c K) l (fun x y => cf x.1 y.1) := fun K hK => ⟨fun x y => hn x.1 x.2 K hK y.1 y.2, hO'⟩
  have hsome : ∀ K, n ≤ K → ∃ r, sortF (c K) l = some r := fun K hK => by
    unfold sortF
    rw [dif_pos ⟨_, hS K hK⟩]
    split
    · exact ⟨_, rfl⟩
    · exact ⟨_, rfl⟩
  by_cases hl : l = []
  · refine ⟨[], ⟨n, fun K j hK _ => ?_⟩, by rw [hl], List.Pairwise.nil⟩
    obtain ⟨r, hr⟩ := hsome K hK
    rcases sortF_some hr with ⟨_, rfl⟩ | ⟨hl2, _⟩
    · exact hr
    · exact absurd hl hl2
  · letI : Inhabited {x // x ∈ l} := ⟨⟨l.head hl, List.head_mem hl⟩⟩
    refine ⟨(Go.Sort.pdq (Go.Proofs.ltOf fun x y : {x // x ∈ l} => cf x.1 y.1) l.attach.toArray 0 l.attach.toArray.size (Go.Lib.bitLen l.attach.toArray.size) true true).toList.map Subtype.val, ⟨n, fun K j hK _ => ?_⟩, ?_⟩
    · obtain ⟨r, hr⟩ := hsome K hK
      rcases sortF_some hr with ⟨hl2, _⟩ | ⟨_, cf', hS', rfl⟩
      · exact absurd hl2 hl
      · have : cf' = fun x y => cf x.1 y.1 := by
          funext x y
          exact Option.some.inj ((hS'.1 x y).symm.trans ((hS K hK).1 x y))
        subst this
        exact hr
    · obtain ⟨⟨h1, _, h3⟩, h4⟩ := Go.Sort.pdq_sorts (Go.Proofs.ltOf fun x y : {x // x ∈ l} => cf x.1 y.1) hO' l.attach.toArray 0 l.attach.toArray.size (Go.Lib.bitLen l.attach.toArray.size) true true (Nat.zero_le _) (Nat.le_refl _) (Or.inl rfl)
      generalize Go.Sort.pdq (Go.Proofs.ltOf fun x y : {x // x ∈ l} => cf x.1 y.1) l.attach.toArray 0 l.attach.toArray.size (Go.Lib.bitLen l.attach.toArray.size) true true = d at h1 h3 h4 ⊢
      constructor
      · rw [← h1] at h3
        rw [Array.extract_size] at h3
        rw [h1, Array.extract_size] at h3
        have := h3.map Subtype.val
        simpa using this
      · rw [List.pairwise_map]
        rw [List.pairwise_iff_getElem]
        intro i j hi hj hij
        have h5 := h4 i j (Nat.zero_le _) hij (by rw [← h1]; simpa using hj)
        rw [getElem!_pos d j (by simpa using hj), getElem!_pos d i (by simpa using hi)] at h5
        unfold Go.Proofs.ltOf at h5
        simpa using h5
/-- two rows in strict order that hold the same are the same -/
theorem eq_of_strict {α : Type} {lt : α → α → Prop} (hi : ∀ a, ¬ lt a a) (ha : ∀ a b, lt a b → ¬ lt b a) : ∀ {l m : List α}, l.Pairwise lt → m.Pairwise lt → (∀ x, x ∈ l ↔ x ∈ m) → l = m
  | [], [], _, _, _ => rfl
  | [], b :: m, _, _, h => by have := (h b).2 List.mem_cons_self; cases this
  | a :: l, [], _, _, h => by have := (h a).1 List.mem_cons_self; cases this
  | a :: l, b :: m, h1, h2, h => by
    rw [List.pairwise_cons] at h1 h2
    have e : a = b := by
      rcases List.mem_cons.1 ((h a).1 List.mem_cons_self) with q | q
      · exact q
      · rcases List.mem_cons.1 ((h b).2 List.mem_cons_self) with z | z
        · exact z.symm
        · exact absurd (h1.1 b z) (ha _ _ (h2.1 a q))
    subst e
    rw [eq_of_strict hi ha h1.2 h2.2 fun x => ⟨fun q => ?_, fun q => ?_⟩]
    · rcases List.mem_cons.1 ((h x).1 (List.mem_cons_of_mem _ q)) with z | z
      · exact absurd (h1.1 x q) (z ▸ hi _)
      · exact z
    · rcases List.mem_cons.1 ((h x).2 (List.mem_cons_of_mem _ q)) with z | z
      · exact absurd (h2.1 x q) (z ▸ hi _)
      · exact z
theorem Ev.allK {α : Type} {n : Nat} {F : Nat → Nat → Int → Option α} {r : α} (h0 : 0 < n) (h : ∀ i : Nat, i < n → Ev (fun K j => F K j (i : Int)) r) : Ev (fun K j => Go.Den.allK (n : Int) (F K j)) r := by
  have : ∀ m, m ≤ n → ∃ q, ∀ K j, q ≤ K → q ≤ j → ∀ i : Nat, i < m → F K j (i : Int) = some r := by
    intro m
    induction m with
    | zero => exact fun _ => ⟨0, fun K j _ _ i hi => absurd hi (Nat.not_lt_zero _)⟩
    | succ m ih =>
      intro hm
      obtain ⟨q, hq⟩ := ih (by omega)
      obtain ⟨p, hp⟩ := h m (by omega)
      refine ⟨max p q, fun K j h1 h2 i hi => ?_⟩
      by_cases e : i = m
      · subst e; exact hp K j (by omega) (by omega)
      · exact hq K j (by omega) (by omega) i (by omega)
  obtain ⟨q, hq⟩ := this n (Nat.le_refl _)
  refine ⟨q, fun K j h1 h2 => ?_⟩
  have ex : ∃ r : α, 0 < (n : Int) ∧ ∀ i : Int, 0 ≤ i → i < (n : Int) → F K j i = some r := ⟨r, by omega, fun i hi1 hi2 => by
    have := hq K j h1 h2 i.toNat (by omega)
    rwa [Int.toNat_of_nonneg hi1] at this⟩
  show Go.Den.allK (n : Int) (F K j) = some r
  unfold Go.Den.allK
  rw [dif_pos ex]
  have := ex.choose_spec.2 0 (by omega) (by omega)
  have h3 := hq K j h1 h2 0 h0
  exact this.symm.trans h3

/-! ### orders told by a number below, at or above 0 -/
structure Ord3 {α : Type} (c : α → α → Int) : Prop where
  anti : ∀ a b, c b a = - c a b
  trans : ∀ a b d, c a b < 0 → c b d < 0 → c a d < 0
  same : ∀ a b d, c a b = 0 → c a d = c b d
theorem Ord3.self {α : Type} {c : α → α → Int} (h : Ord3 c) (a : α) : c a a = 0 := by have := h.anti a a; omega
theorem Ord3.same2 {α : Type} {c : α → α → Int} (h : Ord3 c) (a b d : α) (e : c a b = 0) : c d a = c d b := by rw [h.anti a d, h.anti b d, h.same a b d e]
theorem Ord3.swo {α : Type} {c : α → α → Int} (h : Ord3 c) : Go.Sort.SWO (Go.Proofs.ltOf c) := by
  refine ⟨fun x => ?_, fun x y z => ?_, fun x y z => ?_⟩ <;> unfold Go.Proofs.ltOf
  · rw [h.self x]; rfl
  · intro h1 h2
    simp only [decide_eq_true_eq] at *
    exact h.trans _ _ _ h1 h2
  · intro h1 h2
    simp only [decide_eq_false_iff_not] at *
    intro h3
    by_cases q : c x y = 0
    · rw [h.same x y z q] at h3; exact h2 h3
    · have : c y x < 0 := by rw [h.anti x y]; omega
      exact h2 (h.trans _ _ _ this h3)
theorem Ord3.of {α β : Type} {c : β → β → Int} (h : Ord3 c) (f : α → β) : Ord3 (fun a b => c (f a) (f b)) := ⟨fun a b => h.anti _ _, fun a b d => h.trans _ _ _, fun a b d => h.same _ _ _⟩
def lex {α : Type} (c1 c2 : α → α → Int) (a b : α) : Int := if c1 a b = 0 then c2 a b else c1 a b
theorem lex_zero {α : Type} {c1 c2 : α → α → Int} {a b : α} : lex c1 c2 a b = 0 ↔ c1 a b = 0 ∧ c2 a b = 0 := by
  unfold lex
  split
  · rename_i h; exact ⟨fun q => ⟨h, q⟩, fun q => q.2⟩
  · rename_i h; exact ⟨fun q => absurd q h, fun q => absurd q.1 h⟩
theorem Ord3.lx {α : Type} {c1 c2 : α → α → Int} (h1 : Ord3 c1) (h2 : Ord3 c2) : Ord3 (lex c1 c2) := by
  refine ⟨fun a b => ?_, fun a b d p q => ?_, fun a b d e => ?_⟩
  · unfold lex
    have e := h1.anti a b
    have e2 := h2.anti a b
    by_cases z : c1 a b = 0
    · rw [if_pos z, if_pos (by omega), e2]
    · rw [if_neg z, if_neg (by omega), e]
  · unfold lex at *
    by_cases z : c1 a b = 0
    · rw [if_pos z] at p
      rw [h1.same a b d z]
      by_cases w : c1 b d = 0
      · rw [if_pos w] at q ⊢; exact h2.trans _ _ _ p q
      · rw [if_neg w] at q ⊢; exact q
    · rw [if_neg z] at p
      have : c1 a d < 0 := by
        by_cases w : c1 b d = 0
        · rw [← h1.same2 b d a w]; exact p
        · rw [if_neg w] at q; exact h1.trans _ _ _ p q
      rw [if_neg (by omega)]; exact this
  · obtain ⟨e1, e2⟩ := lex_zero.1 e
    unfold lex
    rw [h1.same a b d e1, h2.same a b d e2]
def cmpN (a b : Int) : Int := if a < b then -1 else if a > b then 1 else 0
theorem cmpN_zero {a b : Int} : cmpN a b = 0 ↔ a = b := by unfold cmpN; split <;> (try split) <;> constructor <;> intro h <;> omega
theorem ordN : Ord3 cmpN := by
  refine ⟨fun a b => ?_, fun a b d p q => ?_, fun a b d e => ?_⟩
  · unfold cmpN; split <;> split <;> (try split) <;> omega
  · unfold cmpN at *
    have h1 : a < b := by
      by_cases z : a < b
      · exact z
      · rw [if_neg z] at p; split at p <;> omega
    have h2 : b < d := by
      by_cases z : b < d
      · exact z
      · rw [if_neg z] at q; split at q <;> omega
    rw [if_pos (by omega)]; omega
  · rw [cmpN_zero.1 e]
theorem ordT : Ord3 cmpT := ⟨cmpT_anti, fun a b d => cmpT_trans, fun a b d e => by rw [cmpT_zero.1 e]⟩
/-- a row in order, put together with another that holds the same -/
theorem strict_eq {α : Type} {c : α → α → Int} (h : Ord3 c) {l m : List α} (hl : l.Pairwise fun a b => c a b < 0) (hm : m.Pairwise fun a b => c a b < 0) (hx : ∀ x, x ∈ l ↔ x ∈ m) : l = m :=
  eq_of_strict (fun a => by rw [h.self]; omega) (fun a b q => by rw [h.anti a b]; omega) hl hm hx

/-! ### what the law's measure leaves: everything is short -/
def smSh : (s : Sh) → sem s → Prop
  | .int k, x => (Lit.int k x).wf = true
  | .bool, _ => True
  | .str, s => (s : ByteArray).size ≤ 1048576
  | .unit, _ => True
  | .pair a b, x => smSh a x.1 ∧ smSh b x.2
  | .list t, l => (l : List (sem t)).length ≤ 1048576 ∧ allIn (α := sem t) l (smSh t)
theorem SzP.len {g : Nat → Nat → Option Int} {m : Int} {P : Prop} (h : SzP g m P) (q : P) : SzP g m P := h
/-- a loop that measures a row's elements -/
theorem sz_row {α : Type} {L : Nat → Nat → Int → Int → Option Int} {l : List α} {P : α → Prop}
    (step : ∀ (i : Nat) (h : i < l.length) (m : Int), 0 ≤ m → m ≤ 1048576 → ∃ r, -1 ≤ r ∧ r ≤ m ∧ (0 ≤ r → P l[i]) ∧ (r < 0 → Ev (fun K j => L K j m (i : Int)) (-1)) ∧ (0 ≤ r → ∀ s, Ev (fun K j => L K j r ((i + 1 : Nat) : Int)) s → Ev (fun K j => L K j m (i : Int)) s))
    (done : ∀ m : Int, Ev (fun K j => L K j m (l.length : Int)) m) : ∀ (d i : Nat) (m : Int), l.length = i + d → 0 ≤ m → m ≤ 1048576 → SzP (fun K j => L K j m (i : Int)) m (∀ x ∈ l.drop i, P x) := by
  intro d
  induction d with
  | zero =>
    intro i m h h0 h1
    obtain rfl : i = l.length := by omega
    exact ⟨m, done m, by omega, by omega, fun _ x hx => by rw [List.drop_length] at hx; cases hx⟩
  | succ d ih =>
    intro i m h h0 h1
    obtain ⟨r, r1, r2, r3, r4, r5⟩ := step i (by omega) m h0 h1
    by_cases hr : r < 0
    · exact ⟨-1, r4 hr, by omega, by omega, fun h => by omega⟩
    · obtain ⟨s, q, q1, q2, q3⟩ := ih (i + 1) r (by omega) (by omega) (by omega)
      refine ⟨s, r5 (by omega) s q, q1, by omega, fun hs x hx => ?_⟩
      rw [List.drop_eq_getElem_cons (show i < l.length by omega)] at hx
      rcases List.mem_cons.1 hx with rfl | hx
      · exact r3 (by omega)
      · exact q3 hs x hx
theorem SzP.loop {L : Nat → Nat → Int → Int → Option Int} {m : Int} {P P' : Prop} (h : SzP (fun K j => L K j m 0) m P) (hp : P → P') : SzP (fun K _ => L K K m 0) m P' := by
  obtain ⟨r, q, q1, q2, q3⟩ := h
  exact ⟨r, Ev.diag q, q1, q2, fun z => hp (q3 z)⟩

/-! ### marks: what markX writes, heldX finds -/
theorem markText_loop : ∀ (n x : Nat) (s : ByteArray), x < 10 ^ n → n ≤ 20 → x ≤ 9000000000000000000 → s.size + n ≤ 1000 → ∃ r, Ev (fun K j => laws_markText.l14 K j (x : Int) s) r
  | 0, x, s, hx, hn, hb, hs => by
    have h0 : x = 0 := by simpa using hx
    subst h0
    exact ⟨_, Ev.lp (fun K j => laws_markText.l14_eq K j _ s) (Ev.no (by omega) (Ev.yes (by show 1 + s.size ≤ lim; unfold lim; omega) (Ev.now _)))⟩
  | n + 1, x, s, hx, hn, hb, hs => by
    by_cases h : x = 0
    · subst h
      exact ⟨_, Ev.lp (fun K j => laws_markText.l14_eq K j _ s) (Ev.no (by omega) (Ev.yes (by show 1 + s.size ≤ lim; unfold lim; omega) (Ev.now _)))⟩
    · have e : wrap64 (quoI (x : Int) 10) = ((x / 10 : Nat) : Int) := by
        unfold quoI
        rw [Int.tdiv_eq_ediv_of_nonneg (by omega), wrap_id (by omega) (by omega)]
        omega
      have hs1 : (appS (utfB [(wr .u8 (wrap64 (48 + (remI (x : Int) 10))))]) s).size = 1 + s.size := by
        unfold appS
        rw [ByteArray.size_append]; rfl
      obtain ⟨r, hr⟩ := markText_loop n (x / 10) (appS (utfB [(wr .u8 (wrap64 (48 + (remI (x : Int) 10))))]) s) (by rw [Nat.pow_succ] at hx; omega) (by omega) (by omega) (by omega)
      refine ⟨r, Ev.lp (fun K j => laws_markText.l14_eq K j _ s) (Ev.yes (by omega) (Ev.yes (by show 1 + s.size ≤ lim; unfold lim; omega) ?_))⟩
      rw [e]
      exact hr
theorem markText_ev (k : Int) (h : 0 ≤ k ∧ k ≤ 9000000000000000000) : ∃ r, Ev (fun K _ => laws_markText.f K k) r := by
  by_cases h0 : k ≤ 0
  · exact ⟨_, Ev.fn (fun q => laws_markText.f_eq q k) (Ev.yes h0 (Ev.now _))⟩
  · obtain ⟨r, hr⟩ := markText_loop 19 k.toNat ⟨#[]⟩ (by omega) (by omega) (by omega) (by show 0 + 19 ≤ 1000; omega)
    rw [Int.toNat_of_nonneg (by omega)] at hr
    exact ⟨r, Ev.fn (fun q => laws_markText.f_eq q k) (Ev.no h0 (Ev.diag hr))⟩
open Classical in
noncomputable def mkT (k : Int) : ByteArray := if h : 0 ≤ k ∧ k ≤ 9000000000000000000 then Classical.choose (markText_ev k h) else ⟨#[]⟩
theorem mkT_ev {k : Int} (h0 : 0 ≤ k) (h1 : k ≤ 9000000000000000000) : Ev (fun K _ => laws_markText.f K k) (mkT k) := by
  unfold mkT
  rw [dif_pos ⟨h0, h1⟩]
  exact Classical.choose_spec (markText_ev k ⟨h0, h1⟩)
theorem Ev.slet {α β : Type} {f : Nat → Nat → α → Option β} {a : α} {r : β} (h : Ev (fun K j => f K j a) r) : Ev (fun K j => (some a).bind (f K j)) r := h
theorem copy_loopW {α β : Type} {W : List α → β} {L : Nat → Nat → Int → List α → Option β} {l : List α}
    (step : ∀ (i : Nat) (h : i < l.length) (y : List α), y.length = l.length → ∀ r, Ev (fun K j => L K j ((i + 1 : Nat) : Int) (put y (i : Int) l[i])) r → Ev (fun K j => L K j (i : Int) y) r)
    (done : ∀ y : List α, Ev (fun K j => L K j (l.length : Int) y) (W y)) : ∀ (d i : Nat) (y : List α), l.length = i + d → y.length = l.length → y.take i = l.take i → Ev (fun K j => L K j (i : Int) y) (W l) := by
  intro d
  induction d with
  | zero =>
    intro i y h hy ht
    obtain rfl : i = l.length := by omega
    rw [List.take_length, ← hy, List.take_length] at ht
    subst ht
    exact done y
  | succ d ih =>
    intro i y h hy ht
    refine step i (by omega) y hy _ (ih (i + 1) _ (by omega) (by unfold put; rw [List.length_set]; exact hy) ?_)
    unfold put
    rw [Int.toNat_natCast, List.take_succ_eq_append_getElem (by rw [List.length_set]; omega), List.take_succ_eq_append_getElem (show i < l.length by omega), List.getElem_set_self, List.take_set_of_le (Nat.le_refl _), ht]
theorem put_nat {α : Type} (l : List α) (i : Nat) (x : α) : put l (i : Int) x = l.set i x := by unfold put; rw [Int.toNat_natCast]
theorem put_length {α : Type} (l : List α) (i : Int) (x : α) : (put l i x).length = l.length := by unfold put; rw [List.length_set]
theorem put_put {α : Type} (l : List α) (i : Int) (x y : α) : put (put l i x) i y = put l i y := by unfold put; rw [List.set_set]
theorem rd_put {α : Type} (z : α) (l : List α) (i : Nat) (x : α) (h : i < l.length) : rd z (put l (i : Int) x) (i : Int) = x := by
  rw [rd_at _ _ _ (by rw [put_length]; exact h)]
  simp only [put_nat, List.getElem_set_self]
theorem mark_loop {α : Type} {L : Nat → Nat → Int → Int → List α → Option (Int × List α × Unit)} {mk : Int → α → α} {c n : Nat}
    (step : ∀ (i : Nat) (k : Int) (y : List α) (h : i < y.length), y.length = n → 0 ≤ k → k + c ≤ 4000000000000000000 → ∀ r, Ev (fun K j => L K j (k + c) ((i + 1 : Nat) : Int) (put y (i : Int) (mk k y[i]))) r → Ev (fun K j => L K j k (i : Int) y) r)
    (done : ∀ (k : Int) (y : List α), y.length = n → Ev (fun K j => L K j k (n : Int) y) (k, y, ())) :
    ∀ (d i : Nat) (k : Int) (y : List α), y.length = n → n = i + d → 0 ≤ k → k + (c : Int) * d ≤ 4000000000000000000 →
      ∃ y' : List α, y'.length = n ∧ y'.take i = y.take i ∧ (∀ e, e < d → ∃ x, y'[i + e]? = some (mk (k + (c : Int) * e) x)) ∧ Ev (fun K j => L K j k (i : Int) y) (k + (c : Int) * d, y', ())
  | 0, i, k, y, hy, hn, h0, h1 => by
    obtain rfl : n = i := by omega
    refine ⟨y, hy, rfl, fun e he => absurd he (Nat.not_lt_zero _), ?_⟩
    rw [show k + (c : Int) * ((0 : Nat) : Int) = k by simp]
    exact done k y hy
  | d + 1, i, k, y, hy, hn, h0, h1 => by
    have hm : (c : Int) * ((d + 1 : Nat) : Int) = c + (c : Int) * d := by rw [Int.natCast_succ, Int.mul_add, Int.mul_one, Int.add_comm]
    have hcd : 0 ≤ (c : Int) * (d : Int) := Int.mul_nonneg (by omega) (by omega)
    rw [hm] at h1 ⊢
    obtain ⟨y', a1, a2, a3, a4⟩ := mark_loop step done d (i + 1) (k + c) (put y (i : Int) (mk k (y[i]'(by omega)))) (by rw [put_length]; exact hy) (by omega) (by omega) (by omega)
    refine ⟨y', a1, ?_, fun e he => ?_, step i k y (by omega) hy h0 (by omega) _ (by rw [Int.add_assoc] at a4; exact a4)⟩
    · have := congrArg (List.take i) a2
      rw [List.take_take, List.take_take, Nat.min_eq_left (by omega), put_nat, List.take_set_of_le (Nat.le_refl _)] at this
      exact this
    · cases e with
      | zero =>
        refine ⟨y[i]'(by omega), ?_⟩
        have := congrArg (fun l => l[i]?) a2
        simp only [List.getElem?_take] at this
        rw [if_pos (by omega), if_pos (by omega), put_nat, List.getElem?_set_self (by omega)] at this
        rw [show k + (c : Int) * ((0 : Nat) : Int) = k by simp]
        exact this
      | succ e =>
        obtain ⟨x, hx⟩ := a3 e (by omega)
        refine ⟨x, ?_⟩
        rw [show i + (e + 1) = i + 1 + e by omega, hx, show (c : Int) * ((e + 1 : Nat) : Int) = c + (c : Int) * e by rw [Int.natCast_succ, Int.mul_add, Int.mul_one, Int.add_comm], Int.add_assoc]
theorem held_loop {α : Type} {L : Nat → Nat → Int → Int → Option Int} {mk : Int → α → α} {c : Nat} {l : List α}
    (step : ∀ (i : Nat) (k : Int) (h : i < l.length) (x : α), l[i] = mk k x → 0 ≤ k → k + c ≤ 4000000000000000000 → ∀ r, Ev (fun K j => L K j (k + c) ((i + 1 : Nat) : Int)) r → Ev (fun K j => L K j k (i : Int)) r)
    (done : ∀ k : Int, Ev (fun K j => L K j k (l.length : Int)) k) :
    ∀ (d i : Nat) (k : Int), l.length = i + d → 0 ≤ k → k + (c : Int) * d ≤ 4000000000000000000 → (∀ e, e < d → ∃ x, l[i + e]? = some (mk (k + (c : Int) * e) x)) → Ev (fun K j => L K j k (i : Int)) (k + (c : Int) * d)
  | 0, i, k, hn, h0, h1, ha => by
    obtain rfl : i = l.length := by omega
    rw [show k + (c : Int) * ((0 : Nat) : Int) = k by simp]
    exact done k
  | d + 1, i, k, hn, h0, h1, ha => by
    have hm : (c : Int) * ((d + 1 : Nat) : Int) = c + (c : Int) * d := by rw [Int.natCast_succ, Int.mul_add, Int.mul_one, Int.add_comm]
    have hcd : 0 ≤ (c : Int) * (d : Int) := Int.mul_nonneg (by omega) (by omega)
    rw [hm] at h1 ⊢
    obtain ⟨x, hx⟩ := ha 0 (by omega)
    rw [Nat.add_zero, List.getElem?_eq_getElem (by omega), show k + (c : Int) * ((0 : Nat) : Int) = k by simp] at hx
    refine step i k (by omega) x (Option.some.inj hx) h0 (by omega) _ ?_
    rw [← Int.add_assoc]
    refine held_loop step done d (i + 1) (k + c) (by omega) (by omega) (by omega) fun e he => ?_
    obtain ⟨x, hx⟩ := ha (e + 1) (by omega)
    refine ⟨x, ?_⟩
    rw [show i + 1 + e = i + (e + 1) by omega, hx, show (c : Int) * ((e + 1 : Nat) : Int) = c + (c : Int) * e by rw [Int.natCast_succ, Int.mul_add, Int.mul_one, Int.add_comm], Int.add_assoc]

/-! ### atoms in order -/
theorem most48 {n : Nat} (h : n ≤ 1000000) : n ≤ most 48 := by unfold most; omega
def acmp (a b : T54) : Int := lex (fun a b : T54 => cmpN a.1 b.1) (lex (fun a b : T54 => cmpN a.2.1 b.2.1) (lex (fun a b : T54 => cmpT a.2.2.2.1 b.2.2.2.1) (fun a b : T54 => cmpT a.2.2.1 b.2.2.1))) a b
theorem spec_acmp (a b : T54) : spec_l1Cmp.v a b = acmp a b := rfl
theorem ordA : Ord3 acmp := (ordN.of (α := T54) (fun a => a.1)).lx ((ordN.of (α := T54) (fun a => a.2.1)).lx ((ordT.of (α := T54) (fun a => a.2.2.2.1)).lx (ordT.of (α := T54) (fun a => a.2.2.1))))
theorem acmp_zero {a b : T54} : acmp a b = 0 ↔ a = b := by
  constructor
  · intro h
    obtain ⟨h1, h⟩ := lex_zero.1 h
    obtain ⟨h2, h⟩ := lex_zero.1 h
    obtain ⟨h3, h4⟩ := lex_zero.1 h
    have h1 := cmpN_zero.1 h1
    have h2 := cmpN_zero.1 h2
    have h3 := cmpT_zero.1 h3
    have h4 := cmpT_zero.1 h4
    obtain ⟨a1, a2, a3, a4, _⟩ := a
    obtain ⟨b1, b2, b3, b4, _⟩ := b
    simp only at h1 h2 h3 h4
    rw [h1, h2, h3, h4]
  · intro h; rw [h]; exact ordA.self b
theorem asorted_shift (l : List T54) (n : Int) (i : Int) (e : T54) (s : List T54) (hs : s.length ≤ 900000) (k : Nat) (hk : k ≤ s.length) : ∀ (d : Nat) (y : List T54), y.length = s.length + 1 → k + d ≤ s.length → (∀ i, i < k + d → y[i]? = s[i]?) → (∀ i, k + d < i → y[i]? = s[i - 1]?) →
    ∀ r, Ev (fun K j => spec_l1Sorted.l8 K j l n (wrap64 (i + 1)) (s.take k ++ e :: s.drop k)) r → Ev (fun K j => spec_l1Sorted.l44 K j (k : Int) ((k + d : Nat) : Int) l n i y e.1 e.2.1 e.2.2.1 e.2.2.2.1) r
  | 0, y, hy, hd, h1, h2, r, hr => by
    refine Ev.lp (fun K j => spec_l1Sorted.l44_eq K j k _ l n i y e.1 e.2.1 e.2.2.1 e.2.2.2.1) (Ev.no (by omega) (Ev.yes (by omega) (Ev.slet ?_)))
    have : put y (k : Int) e = s.take k ++ e :: s.drop k := by
      rw [put_nat]
      apply List.ext_getElem?
      intro j
      rcases Nat.lt_trichotomy j k with q | q | q
      · rw [List.getElem?_set_ne (by omega), h1 j (by omega), List.getElem?_append_left (by rw [List.length_take]; omega), List.getElem?_take, if_pos q]
      · subst q
        rw [List.getElem?_set_self (by omega), List.getElem?_append_right (by rw [List.length_take]; omega), List.length_take, show j - min j s.length = 0 by omega]
        rfl
      · rw [List.getElem?_set_ne (by omega), h2 j (by omega), List.getElem?_append_right (by rw [List.length_take]; omega), List.length_take, show j - min k s.length = j - 1 - k + 1 by omega, List.getElem?_cons_succ, List.getElem?_drop, show k + (j - 1 - k) = j - 1 by omega]
    rw [this]; exact hr
  | d + 1, y, hy, hd, h1, h2, r, hr => by
    refine Ev.lp (fun K j => spec_l1Sorted.l44_eq K j k _ l n i y e.1 e.2.1 e.2.2.1 e.2.2.2.1) (Ev.yes (by omega) ?_)
    rw [show wrap64 (((k + (d + 1) : Nat) : Int) - 1) = ((k + d : Nat) : Int) by rw [cast_pred (by omega) (by omega)]; rfl]
    refine Ev.yes (by omega) (Ev.yes (by omega) (Ev.slet ?_))
    have hlt : k + d < y.length := by omega
    refine asorted_shift l n i e s hs k hk d _ (by rw [put_length]; exact hy) (by omega) (fun j hj => ?_) (fun j hj => ?_) r hr
    · rw [put_nat, List.getElem?_set_ne (by omega)]; exact h1 j (by omega)
    · by_cases q : j = k + (d + 1)
      · subst q
        rw [put_nat, List.getElem?_set_self (by omega), rd_at _ _ _ hlt, ← List.getElem?_eq_getElem hlt, h1 _ (by omega)]
        rfl
      · rw [put_nat, List.getElem?_set_ne (by omega)]; exact h2 j (by omega)
def lta (a b : T54) : Prop := acmp a b < 0
theorem asorted_put {s : List T54} (hs : s.Pairwise lta) {k : Nat} (hk : k ≤ s.length) {e : T54} (h1 : ∀ (i : Nat) (h : i < s.length), k ≤ i → acmp s[i] e > 0) (h2 : ∀ (h : 0 < k), acmp (s[k - 1]'(by omega)) e < 0) : (s.take k ++ e :: s.drop k).Pairwise lta := by
  have hs2 := hs
  rw [← List.take_append_drop k s, List.pairwise_append] at hs2
  obtain ⟨p1, p2, p3⟩ := hs2
  have q1 : ∀ x ∈ s.take k, lta x e := fun x hx => by
    obtain ⟨i, hi, rfl⟩ := List.getElem_of_mem hx
    rw [List.length_take] at hi
    rw [List.getElem_take]
    have hk0 : 0 < k := by omega
    by_cases q : i = k - 1
    · subst q; exact h2 hk0
    · exact ordA.trans _ _ _ (List.pairwise_iff_getElem.1 hs i (k - 1) (by omega) (by omega) (by omega)) (h2 hk0)
  have q2 : ∀ x ∈ s.drop k, lta e x := fun x hx => by
    obtain ⟨i, hi, rfl⟩ := List.getElem_of_mem hx
    rw [List.length_drop] at hi
    rw [List.getElem_drop]
    have := h1 (k + i) (by omega) (by omega)
    unfold lta
    rw [ordA.anti]; omega
  rw [List.pairwise_append]
  refine ⟨p1, List.pairwise_cons.2 ⟨q2, p2⟩, fun a ha b hb => ?_⟩
  rcases List.mem_cons.1 hb with rfl | hb
  · exact q1 a ha
  · exact p3 a ha b hb
theorem asorted_find (l : List T54) (n i : Int) (e : T54) (he : fitSh S54 e) (s : List T54) (hs : s.length ≤ 900000) (hf : ∀ x ∈ s, fitSh S54 x) (hp : s.Pairwise lta) : ∀ (k : Nat), k ≤ s.length → (∀ (i : Nat) (h : i < s.length), k ≤ i → acmp s[i] e > 0) →
    ∃ s', s'.Pairwise lta ∧ (∀ x, x ∈ s' ↔ x ∈ s ∨ x = e) ∧ s'.length ≤ s.length + 1 ∧ ∀ r, Ev (fun K j => spec_l1Sorted.l8 K j l n (wrap64 (i + 1)) s') r → Ev (fun K j => spec_l1Sorted.l23 K j (k : Int) l n i s e.1 e.2.1 e.2.2.1 e.2.2.2.1) r := by
  have ins : ∀ (k : Nat) (hk : k ≤ s.length), (∀ (i : Nat) (h : i < s.length), k ≤ i → acmp s[i] e > 0) → (∀ (h : 0 < k), acmp (s[k - 1]'(by omega)) e < 0) →
      ∃ s', s'.Pairwise lta ∧ (∀ x, x ∈ s' ↔ x ∈ s ∨ x = e) ∧ s'.length ≤ s.length + 1 ∧ ∀ r, Ev (fun K j => spec_l1Sorted.l8 K j l n (wrap64 (i + 1)) s') r → Ev (fun K j => spec_l1Sorted.l44 K j (k : Int) (wrap64 (((app s [e]).length : Int) - 1)) l n i (app s [e]) e.1 e.2.1 e.2.2.1 e.2.2.2.1) r := fun k hk h1 h2 => by
    refine ⟨s.take k ++ e :: s.drop k, asorted_put hp hk h1 h2, fun x => ?_, by simp; omega, fun r hr => ?_⟩
    · conv => rhs; rw [← List.take_append_drop k s]
      simp only [List.mem_append, List.mem_cons]
      constructor
      · rintro (z | z | z)
        · exact .inl (.inl z)
        · exact .inr z
        · exact .inl (.inr z)
      · rintro ((z | z) | z)
        · exact .inl z
        · exact .inr (.inr z)
        · exact .inr (.inl z)
    · have hl : (app s [e]).length = s.length + 1 := by simp [app]
      have := asorted_shift l n i e s hs k hk (s.length - k) (app s [e]) hl (by omega) (fun j hj => by unfold app; rw [List.getElem?_append_left (by omega)]) (fun j hj => by rw [List.getElem?_eq_none (by omega), List.getElem?_eq_none (by omega)]) r hr
      rw [hl, show wrap64 (((s.length + 1 : Nat) : Int) - 1) = ((k + (s.length - k) : Nat) : Int) by rw [cast_pred (by omega) (by omega)]; congr 1; omega]
      exact this
  intro k
  induction k with
  | zero =>
    intro hk h1
    obtain ⟨s', a, b, c, d⟩ := ins 0 hk h1 (fun h => absurd h (by omega))
    exact ⟨s', a, b, c, fun r hr => Ev.lp (fun K j => spec_l1Sorted.l23_eq K j _ l n i s e.1 e.2.1 e.2.2.1 e.2.2.2.1) (Ev.no (by omega) (Ev.no (by omega) (Ev.yes (most48 (by simp; omega)) (d r hr))))⟩
  | succ k ih =>
    intro hk h1
    have hlt : k < s.length := by omega
    have hc : Ev (fun K _ => spec_l1Cmp.f K s[k] e) (acmp s[k] e) := (spec_l1Cmp.v_ev s[k] e (hf _ (List.getElem_mem hlt)) he).1
    have pre : wrap64 (((k + 1 : Nat) : Int) - 1) = (k : Int) := by rw [cast_pred (by omega) (by omega)]; rfl
    by_cases q : acmp s[k] e > 0
    · obtain ⟨s', a, b, c, d⟩ := ih (by omega) (fun i hi hki => by
        by_cases z : i = k
        · subst z; exact q
        · exact h1 i hi (by omega))
      refine ⟨s', a, b, c, fun r hr => Ev.lp (fun K j => spec_l1Sorted.l23_eq K j _ l n i s e.1 e.2.1 e.2.2.1 e.2.2.2.1) (Ev.yes (by omega) ?_)⟩
      rw [pre, rd_at _ _ _ hlt]
      exact Ev.yes (by omega) (hc.bind (Ev.yes q (d r hr)))
    · by_cases z : s[k] = e
      · refine ⟨s, hp, fun x => ⟨.inl, fun h => h.elim id fun h => h ▸ z ▸ List.getElem_mem hlt⟩, by omega, fun r hr => Ev.lp (fun K j => spec_l1Sorted.l23_eq K j _ l n i s e.1 e.2.1 e.2.2.1 e.2.2.2.1) (Ev.yes (by omega) ?_)⟩
        rw [pre, rd_at _ _ _ hlt]
        exact Ev.yes (by omega) (hc.bind (Ev.no q (Ev.yes (by omega) (Ev.yes (by omega) (hc.bind (Ev.yes (acmp_zero.2 z) hr))))))
      · obtain ⟨s', a, b, c, d⟩ := ins (k + 1) hk h1 (fun _ => by
          have : acmp s[k] e ≠ 0 := fun w => z (acmp_zero.1 w)
          show acmp s[k] e < 0
          omega)
        refine ⟨s', a, b, c, fun r hr => Ev.lp (fun K j => spec_l1Sorted.l23_eq K j _ l n i s e.1 e.2.1 e.2.2.1 e.2.2.2.1) (Ev.yes (by omega) ?_)⟩
        rw [pre, rd_at _ _ _ hlt]
        exact Ev.yes (by omega) (hc.bind (Ev.no q (Ev.yes (by omega) (Ev.yes (by omega) (hc.bind (Ev.no (fun w => z (acmp_zero.1 w)) (Ev.yes (most48 (by simp; omega)) (d r hr))))))))
theorem asorted_loop (l : List T54) (hl : l.length ≤ 500000) (hf : ∀ x ∈ l, fitSh S54 x) : ∀ (d i : Nat) (s : List T54), l.length = i + d → s.length ≤ i → (∀ x ∈ s, fitSh S54 x) → s.Pairwise lta →
    ∃ s', Ev (fun K j => spec_l1Sorted.l8 K j l (l.length : Int) (i : Int) s) s' ∧ s'.Pairwise lta ∧ (∀ x, x ∈ s' ↔ x ∈ s ∨ x ∈ l.drop i)
  | 0, i, s, h, hs, hsf, hp => by
    obtain rfl : i = l.length := by omega
    exact ⟨s, Ev.lp (fun K j => spec_l1Sorted.l8_eq K j l _ _ s) (Ev.no (by omega) (Ev.now _)), hp, fun x => by rw [List.drop_length]; simp⟩
  | d + 1, i, s, h, hs, hsf, hp => by
    have hi : i < l.length := by omega
    have he := hf _ (List.getElem_mem hi)
    obtain ⟨s1, p1, m1, l1, e1⟩ := asorted_find l (l.length : Int) (i : Int) l[i] he s (by omega) hsf hp s.length (Nat.le_refl _) (fun j hj hk => by omega)
    obtain ⟨s2, e2, p2, m2⟩ := asorted_loop l hl hf d (i + 1) s1 (by omega) (by omega) (fun x hx => by
      rcases (m1 x).1 hx with z | z
      · exact hsf x z
      · rw [z]; exact he) p1
    refine ⟨s2, Ev.lp (fun K j => spec_l1Sorted.l8_eq K j l _ i s) (Ev.yes (by omega) (Ev.yes (by omega) ?_)), p2, fun x => ?_⟩
    · rw [rd_at _ _ _ hi]
      refine e1 s2 ?_
      rw [wrap_nat (by omega)]; exact e2
    · rw [m2, m1, List.drop_eq_getElem_cons hi, List.mem_cons, or_assoc]
theorem l1Sorted_ev (l : List T54) (hl : l.length ≤ 500000) (hf : ∀ x ∈ l, fitSh S54 x) : ∃ s, Ev (fun K _ => spec_l1Sorted.f K l) s ∧ s.Pairwise lta ∧ ∀ x, x ∈ s ↔ x ∈ l := by
  obtain ⟨s, e, p, m⟩ := asorted_loop l hl hf l.length 0 [] (by omega) (by simp) (fun x hx => by cases hx) List.Pairwise.nil
  exact ⟨s, Ev.fn (fun k => spec_l1Sorted.f_eq k l) (Ev.diag e), p, fun x => by rw [m]; simp⟩

theorem eqAtomD {a b : T54} : eqD S54 a b = true ↔ a = b := eqD_iff S54 a b rfl
/-! ### equal neighbours dropped -/
theorem push_lt {l : List T54} (hp : l.Pairwise fun a b => ¬ acmp b a < 0) {t : Nat} (h : t + 1 < l.length) (hne : l[t + 1] ≠ l[t]) {x : T54} (hx : x ∈ l.take (t + 1)) : acmp x l[t + 1] < 0 := by
  have hq := List.pairwise_iff_getElem.1 hp
  have h1 : acmp l[t] l[t + 1] < 0 := by
    have h2 := hq t (t + 1) (by omega) h (by omega)
    have h3 := ordA.anti l[t + 1] l[t]
    have h4 : acmp l[t + 1] l[t] ≠ 0 := fun w => hne (acmp_zero.1 w)
    omega
  obtain ⟨j, hj, rfl⟩ := List.getElem_of_mem hx
  rw [List.length_take] at hj
  rw [List.getElem_take]
  by_cases q : j = t
  · subst q; exact h1
  · have h2 := hq j t (by omega) (by omega) (by omega)
    have h3 := ordA.anti l[t] (l[j]'(by omega))
    by_cases z : acmp (l[j]'(by omega)) l[t] = 0
    · rw [ordA.same _ _ _ z]; exact h1
    · exact ordA.trans _ _ _ (show acmp (l[j]'(by omega)) l[t] < 0 by omega) h1
theorem strict_push {s : List T54} (hs : s.Pairwise lta) {e : T54} (h : ∀ x ∈ s, acmp x e < 0) : (s ++ [e]).Pairwise lta := by
  rw [List.pairwise_append]
  refine ⟨hs, by simp, fun a ha b hb => ?_⟩
  rw [List.mem_singleton] at hb
  subst hb
  exact h a ha
theorem comp_loop {l : List T54} (hl : l.length ≤ 1000) (hp : l.Pairwise fun a b => ¬ acmp b a < 0) (st : Nat) : ∀ (d k k2 : Nat) (y : List T54), l.length = st + k2 + d → 1 ≤ k2 → k + 1 ≤ st + k2 → y.length = l.length → (∀ t, st + k2 ≤ t + 1 → y[t]? = l[t]?) → (y.take k).Pairwise lta → (∀ x, x ∈ y.take k ↔ x ∈ l.take (st + k2)) →
    ∃ m, Ev (fun K j => slices_Compact_impl_Atom_impl_Atom_m.l32 K j (k : Int) (st : Int) ((l.length : Int) - (st : Int)) (k2 : Int) y) (m, ()) ∧ m.Pairwise lta ∧ ∀ x, x ∈ m ↔ x ∈ l
  | 0, k, k2, y, h, h1, h2, hy, ht, hs, hm => by
    refine ⟨y.take k, Ev.lp (fun K j => slices_Compact_impl_Atom_impl_Atom_m.l32_eq K j _ _ _ _ y) (Ev.no (by omega) (Ev.yes (by omega) (Ev.slet ?_))), hs, fun x => ?_⟩
    · have hz : (zap Z54 y (k : Int) ((y.length : Int) - (k : Int))).length = y.length := by unfold zap; simp; omega
      refine Ev.yes (by rw [hz]; omega) (Ev.some ?_)
      have : cut (zap Z54 y (k : Int) ((y.length : Int) - (k : Int))) 0 (k : Int) = y.take k := by
        unfold cut zap
        simp only [Int.toNat_natCast, Int.toNat_zero, List.drop_zero]
        rw [List.take_append_of_le_length (by rw [List.length_take]; omega), List.take_take, Nat.min_self]
      rw [this]
    · rw [hm, List.take_of_length_le (by omega)]
  | d + 1, k, k2, y, h, h1, h2, hy, ht, hs, hm => by
    have hlt : st + k2 < l.length := by omega
    have e1 : (st : Int) + (k2 : Int) = ((st + k2 : Nat) : Int) := by omega
    have e2 : (st : Int) + wrap64 ((k2 : Int) - 1) = ((st + k2 - 1 : Nat) : Int) := by rw [cast_pred (by omega) (by omega)]; omega
    have g1 : y[st + k2]'(by omega) = l[st + k2] := by
      have := ht (st + k2) (by omega)
      rw [List.getElem?_eq_getElem (by omega), List.getElem?_eq_getElem hlt] at this
      exact Option.some.inj this
    have g2 : y[st + k2 - 1]'(by omega) = l[st + k2 - 1] := by
      have := ht (st + k2 - 1) (by omega)
      rw [List.getElem?_eq_getElem (by omega), List.getElem?_eq_getElem (by omega)] at this
      exact Option.some.inj this
    have tk : l.take (st + (k2 + 1)) = l.take (st + k2) ++ [l[st + k2]] := by rw [← Nat.add_assoc, List.take_succ_eq_append_getElem hlt]
    have start : ∀ r, (l[st + k2] = l[st + k2 - 1] → Ev (fun K j => slices_Compact_impl_Atom_impl_Atom_m.l32 K j (k : Int) (st : Int) ((l.length : Int) - (st : Int)) ((k2 + 1 : Nat) : Int) y) r) →
        (l[st + k2] ≠ l[st + k2 - 1] → Ev (fun K j => slices_Compact_impl_Atom_impl_Atom_m.l32 K j ((k + 1 : Nat) : Int) (st : Int) ((l.length : Int) - (st : Int)) ((k2 + 1 : Nat) : Int) (put y (k : Int) l[st + k2])) r) →
        Ev (fun K j => slices_Compact_impl_Atom_impl_Atom_m.l32 K j (k : Int) (st : Int) ((l.length : Int) - (st : Int)) (k2 : Int) y) r := fun r p q => by
      refine Ev.lp (fun K j => slices_Compact_impl_Atom_impl_Atom_m.l32_eq K j _ _ _ _ y) (Ev.yes (by omega) (Ev.yes (by omega) (Ev.yes (by rw [cast_pred (by omega) (by omega)]; omega) ?_)))
      rw [e1, e2, rd_at _ _ _ (show st + k2 < y.length by omega), rd_at _ _ _ (show st + k2 - 1 < y.length by omega), g1, g2, wrap_nat (i := k2) (by omega), wrap_nat (i := k) (by omega)]
      exact Ev.ite (fun w => p (eqAtomD.1 w)) fun w => Ev.yes (by omega) (Ev.yes (by omega) (Ev.slet (q fun z => w (eqAtomD.2 z))))
    by_cases q : l[st + k2] = l[st + k2 - 1]
    · obtain ⟨m, e, a, b⟩ := comp_loop hl hp st d k (k2 + 1) y (by omega) (by omega) (by omega) hy (fun t h => ht t (by omega)) hs (fun x => by
        rw [hm, tk, List.mem_append, List.mem_singleton]
        refine ⟨.inl, fun z => z.elim id fun z => ?_⟩
        rw [z, q, List.mem_take_iff_getElem]
        exact ⟨st + k2 - 1, by omega, rfl⟩)
      exact ⟨m, start _ (fun _ => e) (fun z => absurd q z), a, b⟩
    · have hk : k < y.length := by omega
      have pt : (put y (k : Int) l[st + k2]).take (k + 1) = y.take k ++ [l[st + k2]] := by
        rw [put_nat, List.take_succ_eq_append_getElem (by rw [List.length_set]; omega), List.getElem_set_self, List.take_set_of_le (Nat.le_refl _)]
      obtain ⟨m, e, a, b⟩ := comp_loop hl hp st d (k + 1) (k2 + 1) (put y (k : Int) l[st + k2]) (by omega) (by omega) (by omega) (by rw [put_length]; exact hy) (fun t h => by
          rw [put_nat, List.getElem?_set_ne (by omega)]; exact ht t (by omega))
        (by
          rw [pt]
          refine strict_push hs fun x hx => ?_
          have hx2 := (hm x).1 hx
          obtain ⟨c, hc⟩ : ∃ c, st + k2 = c + 1 := ⟨st + k2 - 1, by omega⟩
          simp only [hc, Nat.add_sub_cancel] at q hx2 ⊢
          exact push_lt hp (by omega) q hx2)
        (fun x => by rw [pt, tk, List.mem_append, List.mem_append, hm])
      exact ⟨m, start _ (fun z => absurd z q) (fun _ => e), a, b⟩
theorem comp_start {l : List T54} (hl : l.length ≤ 1000) (hp : l.Pairwise fun a b => ¬ acmp b a < 0) : ∀ (d k : Nat), l.length = k + d → 1 ≤ k → (l.take k).Pairwise lta →
    ∃ m, Ev (fun K j => slices_Compact_impl_Atom_impl_Atom_m.l14 K j (k : Int) l) (m, ()) ∧ m.Pairwise lta ∧ ∀ x, x ∈ m ↔ x ∈ l
  | 0, k, h, h1, hs => by
    obtain rfl : k = l.length := by omega
    rw [List.take_length] at hs
    exact ⟨l, Ev.lp (fun K j => slices_Compact_impl_Atom_impl_Atom_m.l14_eq K j _ l) (Ev.no (by omega) (Ev.now _)), hs, fun x => Iff.rfl⟩
  | d + 1, k, h, h1, hs => by
    have hk : k < l.length := by omega
    have e2 : wrap64 ((k : Int) - 1) = ((k - 1 : Nat) : Int) := cast_pred (by omega) (by omega)
    have tk : l.take (k + 1) = l.take k ++ [l[k]] := by rw [List.take_succ_eq_append_getElem hk]
    by_cases q : l[k] = l[k - 1]
    · obtain ⟨m, e, a, b⟩ := comp_loop hl hp k (l.length - (k + 1)) k 1 l (by omega) (Nat.le_refl _) (by omega) rfl (fun t h => rfl) hs (fun x => by
        rw [tk, List.mem_append, List.mem_singleton]
        refine ⟨.inl, fun z => z.elim id fun z => ?_⟩
        rw [z, q, List.mem_take_iff_getElem]
        exact ⟨k - 1, by omega, rfl⟩)
      refine ⟨m, Ev.lp (fun K j => slices_Compact_impl_Atom_impl_Atom_m.l14_eq K j _ l) (Ev.yes (by omega) (Ev.yes (by omega) ?_)), a, b⟩
      rw [e2, rd_at _ _ _ hk, rd_at _ _ _ (show k - 1 < l.length by omega)]
      exact Ev.yes (by omega) (Ev.yes (eqAtomD.2 q) (Ev.yes (by omega) e))
    · obtain ⟨m, e, a, b⟩ := comp_start hl hp d (k + 1) (by omega) (by omega) (by
        rw [tk]
        refine strict_push hs fun x hx => ?_
        obtain ⟨c, rfl⟩ : ∃ c, k = c + 1 := ⟨k - 1, by omega⟩
        exact push_lt hp hk q hx)
      refine ⟨m, Ev.lp (fun K j => slices_Compact_impl_Atom_impl_Atom_m.l14_eq K j _ l) (Ev.yes (by omega) (Ev.yes (by omega) ?_)), a, b⟩
      rw [e2, rd_at _ _ _ hk, rd_at _ _ _ (show k - 1 < l.length by omega), wrap_nat (by omega)]
      exact Ev.yes (by omega) (Ev.no (fun w => q (eqAtomD.1 w)) e)
theorem compact_ev {l : List T54} (hl : l.length ≤ 1000) (hp : l.Pairwise fun a b => ¬ acmp b a < 0) : ∃ m, Ev (fun K _ => slices_Compact_impl_Atom_impl_Atom_m.f K l) (m, ()) ∧ m.Pairwise lta ∧ ∀ x, x ∈ m ↔ x ∈ l := by
  by_cases h : l.length < 2
  · refine ⟨l, Ev.fn (fun k => slices_Compact_impl_Atom_impl_Atom_m.f_eq k l) (Ev.yes (by omega) (Ev.now _)), ?_, fun x => Iff.rfl⟩
    match l, h with
    | [], _ => exact List.Pairwise.nil
    | [a], _ => simp
    | a :: b :: l, h => simp at h; omega
  · obtain ⟨m, e, a, b⟩ := comp_start hl hp (l.length - 1) 1 (by omega) (Nat.le_refl _) (by
      match l with
      | [] => simp
      | a :: l => simp)
    exact ⟨m, Ev.fn (fun k => slices_Compact_impl_Atom_impl_Atom_m.f_eq k l) (Ev.no (by omega) (Ev.diag e)), a, b⟩
theorem cloneA_ev (l : List T54) (hl : l.length ≤ 1000) : Ev (fun K _ => slices_Clone_impl_Atom_impl_Atom_m.f K l) (l, ()) := by
  refine Ev.fn (fun k => slices_Clone_impl_Atom_impl_Atom_m.f_eq k l) ?_
  by_cases h : l.length = 0
  · obtain rfl := List.eq_nil_of_length_eq_zero h
    refine Ev.yes (by simp) (Ev.allK (n := 2) (by omega) fun i hi => ?_)
    exact Ev.ite (fun _ => Ev.now _) fun _ => Ev.yes (most48 (by simp)) (Ev.now _)
  · exact Ev.no (by omega) (Ev.yes (most48 (by simp; omega)) (Ev.some (by simp [app])))
theorem good_index (l : List T54) (hl : l.length ≤ 1000) (hf : ∀ x ∈ l, fitSh S54 x) : ∀ (d i : Nat), l.length = i + d → ∃ r : Int, Ev (fun K j => slices_IndexFunc_impl_Atom_impl_Atom.l6 K j l (l.length : Int) (i : Int)) r ∧ (r ≥ 0 ↔ ¬ (l.drop i).all goodAtom = true)
  | 0, i, h => by
    obtain rfl : i = l.length := by omega
    exact ⟨-1, Ev.lp (fun K j => slices_IndexFunc_impl_Atom_impl_Atom.l6_eq K j l _ _) (Ev.no (by omega) (Ev.now _)), by simp⟩
  | d + 1, i, h => by
    have hi : i < l.length := by omega
    have hg := (impl_GoodAtom.v_ev l[i] (hf _ (List.getElem_mem hi))).1
    have h1 : Ev (fun K _ => impl_SetOf_1.f K l[i]) (!goodAtom l[i]) := Ev.fn (fun k => impl_SetOf_1.f_eq k l[i]) (hg.bind (Ev.now _))
    rw [List.drop_eq_getElem_cons hi, List.all_cons]
    cases hp : goodAtom l[i] with
    | true =>
      obtain ⟨r, e, hr⟩ := good_index l hl hf d (i + 1) (by omega)
      refine ⟨r, Ev.lp (fun K j => slices_IndexFunc_impl_Atom_impl_Atom.l6_eq K j l _ i) (Ev.yes (by omega) (Ev.yes (by omega) ?_)), by rw [Bool.true_and]; exact hr⟩
      rw [rd_at _ _ _ hi, wrap_nat (by omega)]
      rw [hp] at h1
      exact h1.bind (Ev.no (by simp) e)
    | false =>
      refine ⟨i, Ev.lp (fun K j => slices_IndexFunc_impl_Atom_impl_Atom.l6_eq K j l _ i) (Ev.yes (by omega) (Ev.yes (by omega) ?_)), by simp⟩
      rw [rd_at _ _ _ hi]
      rw [hp] at h1
      exact h1.bind (Ev.yes rfl (Ev.now _))
theorem good_has (l : List T54) (hl : l.length ≤ 1000) (hf : ∀ x ∈ l, fitSh S54 x) : Ev (fun K _ => slices_ContainsFunc_impl_Atom_impl_Atom.f K l) (!(l.all goodAtom)) := by
  obtain ⟨r, e, hr⟩ := good_index l hl hf l.length 0 (by omega)
  rw [List.drop_zero] at hr
  have ei : Ev (fun K _ => slices_IndexFunc_impl_Atom_impl_Atom.f K l) r := Ev.fn (fun k => slices_IndexFunc_impl_Atom_impl_Atom.f_eq k l) (Ev.diag e)
  refine Ev.fn (fun k => slices_ContainsFunc_impl_Atom_impl_Atom.f_eq k l) (ei.bind (Ev.some ?_))
  cases h : l.all goodAtom with
  | true => rw [h] at hr; simp at hr ⊢; omega
  | false => rw [h] at hr; simp at hr ⊢; omega
/-- what a set comes to -/
def setV (k : Int) (m : List T54) : T58 := (k, ((0, (0, ((⟨#[]⟩ : ByteArray), ((⟨#[]⟩ : ByteArray), ())))), (m, (([] : List ByteArray), ()))))
theorem spec_loop (l : List T54) (hl : l.length ≤ 1000) (hf : ∀ x ∈ l, fitSh S54 x) {s : List T54} (es : Ev (fun K _ => spec_l1Sorted.f K l) s) : ∀ (d i : Nat), l.length = i + d →
    Ev (fun K j => spec_SetOf.l14 K j l l (l.length : Int) (i : Int) 0 0 0 (⟨#[]⟩ : ByteArray) (⟨#[]⟩ : ByteArray)) (if (l.drop i).all goodAtom = true then (if s.length > 50 then setV 0 [] else setV 2 s) else setV 0 [])
  | 0, i, h => by
    obtain rfl : i = l.length := by omega
    rw [List.drop_length, List.all_nil, if_pos rfl]
    refine Ev.lp (fun K j => spec_SetOf.l14_eq K j l l _ _ 0 0 0 _ _) (Ev.no (by omega) (es.bind ?_))
    by_cases q : s.length > 50
    · rw [if_pos q]; exact Ev.yes (by omega) (Ev.now _)
    · rw [if_neg q]; exact Ev.no (by omega) (Ev.now _)
  | d + 1, i, h => by
    have hi : i < l.length := by omega
    have hg := (spec_GoodAtom.v_ev l[i] (hf _ (List.getElem_mem hi))).1
    refine Ev.lp (fun K j => spec_SetOf.l14_eq K j l l _ _ 0 0 0 _ _) (Ev.yes (by omega) (Ev.yes (by omega) ?_))
    rw [rd_at _ _ _ hi, wrap_nat (by omega), List.drop_eq_getElem_cons hi, List.all_cons]
    have ih := spec_loop l hl hf es d (i + 1) (by omega)
    cases hp : goodAtom l[i] with
    | true => rw [Bool.true_and]; exact hg.bind (Ev.yes hp ih)
    | false => rw [Bool.false_and, if_neg (by simp)]; exact hg.bind (Ev.no (by rw [show spec_GoodAtom.v l[i] = goodAtom l[i] from rfl, hp]; simp) (Ev.now _))
theorem sortA_ev (l : List T54) (hl : l.length ≤ 1000) (hf : ∀ x ∈ l, fitSh S54 x) : ∃ l2, Ev (fun K _ => slices_SortFunc_impl_Atom_impl_Atom_m.f K l) (l2, ()) ∧ l2.Perm l ∧ l2.Pairwise fun a b => ¬ acmp b a < 0 := by
  obtain ⟨l2, e, hp, hs⟩ := Ev.sort (c := fun K x y => impl_ycmpAtom.f K x y) (cf := acmp) (l := l) (fun x hx y hy => by
    have := (impl_ycmpAtom.v_ev x y (hf x hx) (hf y hy)).1
    rwa [cmpAtom_same, spec_acmp] at this) ordA.swo
  refine ⟨l2, Ev.fn (fun k => slices_SortFunc_impl_Atom_impl_Atom_m.f_eq k l) ?_, hp, hs⟩
  obtain ⟨n, hn⟩ := e
  exact ⟨n, fun K j h1 h2 => sortEq_ok (by decide) (by have : List.length l < lim := by unfold lim; omega
                                                       exact this) (hn K j h1 h2)⟩
theorem toAtom_ev (a : T54) (h : smSh S54 a) : Ev (fun K _ => laws_toAtom.f K a) a := by
  obtain ⟨q0, q1, q2, q3, _⟩ := h
  exact Ev.fn (fun k => laws_toAtom.f_eq k a) (Ev.now _)
theorem eqAtom_ev (a : T54) (h : smSh S54 a) : Ev (fun K _ => laws_eqAtom.f K a a) true := by
  obtain ⟨q0, q1, q2, q3, _⟩ := h
  exact Ev.fn (fun k => laws_eqAtom.f_eq k a a) (Ev.yes rfl (Ev.yes rfl (Ev.yes rfl (Ev.yes rfl (Ev.now _)))))
theorem szAtom_ok (a : T54) (m : Int) (h0 : 0 ≤ m) (h1 : m ≤ 1048576) (hf : fitSh S54 a) : SzP (fun K _ => laws_szAtom.f K a m) m (smSh S54 a) := by
  obtain ⟨q0, q1, q2, q3, _⟩ := hf
  refine SzP.fn (fun k => laws_szAtom.f_eq k a m) ?_
  have b2 : a.2.2.1.size ≤ 140737488351232 := q2
  have w1 := wrap_id (x := m - (a.2.2.1.size : Int)) (by omega) (by omega)
  refine SzP.cut (by omega) fun c1 => ?_
  obtain ⟨m1, e1⟩ : ∃ z, z = wrap64 (m - (a.2.2.1.size : Int)) := ⟨_, rfl⟩
  simp only [← e1] at c1 w1 ⊢
  have b3 : a.2.2.2.1.size ≤ 140737488351232 := q3
  have w2 := wrap_id (x := m1 - (a.2.2.2.1.size : Int)) (by omega) (by omega)
  refine SzP.cut (by omega) fun c2 => ?_
  obtain ⟨m2, e2⟩ : ∃ z, z = wrap64 (m1 - (a.2.2.2.1.size : Int)) := ⟨_, rfl⟩
  simp only [← e2] at c2 w2 ⊢
  exact SzP.now (by omega) (by omega) ⟨q0, q1, (show a.2.2.1.size ≤ 1048576 by omega), (show a.2.2.2.1.size ≤ 1048576 by omega), trivial⟩
theorem toAtomS_ev (l : List T54) (hl : smSh (.list S54) l) : Ev (fun K _ => laws_toAtomS_m.f K l) (l, ()) := by
  obtain ⟨hn, hl⟩ := hl
  have hn : l.length ≤ 1048576 := hn
  refine Ev.fn (fun k => laws_toAtomS_m.f_eq k l) (Ev.yes (by omega) (Ev.yes rfl (Ev.diag (copy_loopW (W := fun l => (l, ())) (L := fun K j i y => laws_toAtomS_m.l8 K j l i y) (fun i h y hy r hr => ?_) (fun y => ?_) l.length 0 _ (by omega) (reps_length _ _) rfl))))
  · refine Ev.lp (fun K j => laws_toAtomS_m.l8_eq K j l i y) (Ev.yes (by omega) ?_)
    rw [rd_at _ _ _ h, wrap_nat (by omega)]
    exact Ev.yes (by omega) ((toAtom_ev l[i] (hl _ (List.getElem_mem h))).bind (Ev.yes (by omega) (Ev.slet hr)))
  · exact Ev.lp (fun K j => laws_toAtomS_m.l8_eq K j l _ y) (Ev.no (by omega) (Ev.now _))
theorem markAtomS_ok (l : List T54) (k : Int) (h0 : 0 ≤ k) (h1 : k + 4 * (l.length : Int) ≤ 4000000000000000000) : ∃ l', Ev (fun K _ => laws_markAtomS_m.f K l k) (k + 4 * (l.length : Int), l', ()) ∧ Ev (fun K _ => laws_heldAtomS.f K l' k) (k + 4 * (l.length : Int)) := by
  obtain ⟨y, a1, _, a3, a4⟩ := mark_loop (L := fun K j k i y => laws_markAtomS_m.l6 K j k i y) (mk := fun k x => (k, k + 1, mkT (k + 1 + 1), mkT (k + 1 + 1 + 1), ())) (c := 4) (n := l.length) (fun i k y h hy h0 h1 r hr => by
    refine Ev.lp (fun K j => laws_markAtomS_m.l6_eq K j k i y) (Ev.yes (by omega) ?_)
    simp only [wrap_id (x := k + 1) (by omega) (by omega), wrap_id (x := k + 1 + 1) (by omega) (by omega), wrap_id (x := k + 1 + 1 + 1) (by omega) (by omega), wrap_id (x := k + 1 + 1 + 1 + 1) (by omega) (by omega), wrap_nat (show i < 9000000000000000000 by omega)]
    refine Ev.yes (by omega) ?_; refine Ev.slet ?_; try simp only [put_put, rd_put _ y i _ h, rd_at _ y i h, put_length]
    refine Ev.yes (by omega) ?_; refine Ev.slet ?_; try simp only [put_put, rd_put _ y i _ h, rd_at _ y i h, put_length]
    refine (mkT_ev (by omega) (by omega)).bind ?_; refine Ev.yes (by omega) ?_; refine Ev.slet ?_; try simp only [put_put, rd_put _ y i _ h, rd_at _ y i h, put_length]
    refine (mkT_ev (by omega) (by omega)).bind ?_; refine Ev.yes (by omega) ?_; refine Ev.slet ?_; try simp only [put_put, rd_put _ y i _ h, rd_at _ y i h, put_length]
    rw [show k + 1 + 1 + 1 + 1 = k + ((4 : Nat) : Int) by omega]
    exact hr) (fun k y hy => Ev.lp (fun K j => laws_markAtomS_m.l6_eq K j k _ y) (Ev.no (by omega) (Ev.now _))) l.length 0 k l rfl (by omega) h0 h1
  refine ⟨y, Ev.fn (fun q => laws_markAtomS_m.f_eq q l k) (Ev.diag a4), ?_⟩
  have := held_loop (L := fun K j k i => laws_heldAtomS.l6 K j y k i) (mk := fun k x => (k, k + 1, mkT (k + 1 + 1), mkT (k + 1 + 1 + 1), ())) (c := 4) (l := y) (fun i k h x hx h0 h1 r hr => by
    refine Ev.lp (fun K j => laws_heldAtomS.l6_eq K j y k i) (Ev.yes (by omega) ?_)
    simp only [wrap_id (x := k + 1) (by omega) (by omega), wrap_id (x := k + 1 + 1) (by omega) (by omega), wrap_id (x := k + 1 + 1 + 1) (by omega) (by omega), wrap_id (x := k + 1 + 1 + 1 + 1) (by omega) (by omega), wrap_nat (show i < 9000000000000000000 by omega), rd_at _ y i h, hx]
    repeat (first | refine Ev.yes (by omega) ?_ | refine (mkT_ev (by omega) (by omega)).bind ?_ | refine Ev.yes rfl ?_ | refine Ev.yes trivial ?_ | refine Ev.no (by simp) ?_)
    rw [show k + 1 + 1 + 1 + 1 = k + ((4 : Nat) : Int) by omega]
    exact hr) (fun k => Ev.lp (fun K j => laws_heldAtomS.l6_eq K j y k _) (Ev.no (by omega) (Ev.now _))) l.length 0 k (by omega) h0 h1 a3
  exact Ev.fn (fun q => laws_heldAtomS.f_eq q y k) (Ev.diag this)
theorem eqAtomS_ev (l : List T54) (hl : smSh (.list S54) l) : Ev (fun K _ => laws_eqAtomS.f K l l) true := by
  obtain ⟨hn, hl⟩ := hl
  have hn : l.length ≤ 1048576 := hn
  refine Ev.fn (fun k => laws_eqAtomS.f_eq k l l) (Ev.yes rfl (Ev.diag (true_loop (L := fun K j i => laws_eqAtomS.l14 K j l l i) (n := l.length) (fun i h r hr => ?_) ?_ l.length 0 (by omega))))
  · refine Ev.lp (fun K j => laws_eqAtomS.l14_eq K j l l i) (Ev.yes (by omega) (Ev.yes (by omega) (Ev.yes (by omega) ((eqAtom_ev _ (by rw [rd_at _ _ _ h]; exact hl _ (List.getElem_mem h))).bind (Ev.yes rfl ?_)))))
    rw [wrap_nat (by omega)]; exact hr
  · exact Ev.lp (fun K j => laws_eqAtomS.l14_eq K j l l _) (Ev.no (by omega) (Ev.now _))
theorem szAtomS_ok (l : List T54) (m : Int) (h0 : 0 ≤ m) (h1 : m ≤ 1048576) (hf : fitSh (.list S54) l) : SzP (fun K _ => laws_szAtomS.f K l m) m (smSh (.list S54) l) := by
  obtain ⟨hn, hf⟩ := hf
  have hn : l.length ≤ 140737488351232 := hn
  refine SzP.fn (fun k => laws_szAtomS.f_eq k l m) ?_
  rw [wrap_id (x := m - (l.length : Int)) (by omega) (by omega)]
  refine SzP.cut (by omega) fun hc => ?_
  refine (SzP.loop (L := fun K j m i => laws_szAtomS.l16 K j l m i) (sz_row (L := fun K j m i => laws_szAtomS.l16 K j l m i) (l := l) (P := smSh S54) (fun i h m h0 h1 => ?_) (fun m => ?_) l.length 0 (m - l.length) (by omega) (by omega) (by omega)) fun p => ⟨show l.length ≤ 1048576 by omega, fun x hx => p x hx⟩).imp (by omega) fun p => p
  · obtain ⟨r, q, q1, q2, q3⟩ := szAtom_ok l[i] m h0 h1 (hf _ (List.getElem_mem h))
    refine ⟨r, q1, q2, q3, fun hr => ?_, fun hr s hs => ?_⟩
    · refine Ev.lp (fun K j => laws_szAtomS.l16_eq K j l m i) (Ev.yes (by omega) (Ev.yes (by omega) ?_))
      rw [rd_at _ _ _ h]; exact q.bind (Ev.yes hr (Ev.now _))
    · refine Ev.lp (fun K j => laws_szAtomS.l16_eq K j l m i) (Ev.yes (by omega) (Ev.yes (by omega) ?_))
      rw [rd_at _ _ _ h, wrap_nat (by omega)]; exact q.bind (Ev.no (by omega) hs)
  · exact Ev.lp (fun K j => laws_szAtomS.l16_eq K j l m _) (Ev.no (by omega) (Ev.now _))
theorem markStringS_ok (l : List ByteArray) (k : Int) (h0 : 0 ≤ k) (h1 : k + 1 * (l.length : Int) ≤ 4000000000000000000) : ∃ l', Ev (fun K _ => laws_markStringS_m.f K l k) (k + 1 * (l.length : Int), l', ()) ∧ Ev (fun K _ => laws_heldStringS.f K l' k) (k + 1 * (l.length : Int)) := by
  obtain ⟨y, a1, _, a3, a4⟩ := mark_loop (L := fun K j k i y => laws_markStringS_m.l6 K j k i y) (mk := fun k x => mkT (k)) (c := 1) (n := l.length) (fun i k y h hy h0 h1 r hr => by
    refine Ev.lp (fun K j => laws_markStringS_m.l6_eq K j k i y) (Ev.yes (by omega) ?_)
    simp only [wrap_id (x := k + 1) (by omega) (by omega), wrap_nat (show i < 9000000000000000000 by omega)]
    refine (mkT_ev (by omega) (by omega)).bind ?_; refine Ev.yes (by omega) ?_; refine Ev.slet ?_; try simp only [put_put, rd_put _ y i _ h, rd_at _ y i h, put_length]
    rw [show k + 1 = k + ((1 : Nat) : Int) by omega]
    exact hr) (fun k y hy => Ev.lp (fun K j => laws_markStringS_m.l6_eq K j k _ y) (Ev.no (by omega) (Ev.now _))) l.length 0 k l rfl (by omega) h0 h1
  refine ⟨y, Ev.fn (fun q => laws_markStringS_m.f_eq q l k) (Ev.diag a4), ?_⟩
  have := held_loop (L := fun K j k i => laws_heldStringS.l6 K j y k i) (mk := fun k x => mkT (k)) (c := 1) (l := y) (fun i k h x hx h0 h1 r hr => by
    refine Ev.lp (fun K j => laws_heldStringS.l6_eq K j y k i) (Ev.yes (by omega) ?_)
    simp only [wrap_id (x := k + 1) (by omega) (by omega), wrap_nat (show i < 9000000000000000000 by omega), rd_at _ y i h, hx]
    repeat (first | refine Ev.yes (by omega) ?_ | refine (mkT_ev (by omega) (by omega)).bind ?_ | refine Ev.yes rfl ?_ | refine Ev.yes trivial ?_ | refine Ev.no (by simp) ?_)
    rw [show k + 1 = k + ((1 : Nat) : Int) by omega]
    exact hr) (fun k => Ev.lp (fun K j => laws_heldStringS.l6_eq K j y k _) (Ev.no (by omega) (Ev.now _))) l.length 0 k (by omega) h0 h1 a3
  exact Ev.fn (fun q => laws_heldStringS.f_eq q y k) (Ev.diag this)
theorem eqStringS_ev (l : List ByteArray) (hl : smSh (.list .str) l) : Ev (fun K _ => laws_eqStringS.f K l l) true := by
  obtain ⟨hn, hl⟩ := hl
  have hn : l.length ≤ 1048576 := hn
  refine Ev.fn (fun k => laws_eqStringS.f_eq k l l) (Ev.yes rfl (Ev.diag (true_loop (L := fun K j i => laws_eqStringS.l14 K j l l i) (n := l.length) (fun i h r hr => ?_) ?_ l.length 0 (by omega))))
  · refine Ev.lp (fun K j => laws_eqStringS.l14_eq K j l l i) (Ev.yes (by omega) (Ev.yes (by omega) (Ev.yes (by omega) (Ev.yes rfl ?_))))
    rw [wrap_nat (by omega)]; exact hr
  · exact Ev.lp (fun K j => laws_eqStringS.l14_eq K j l l _) (Ev.no (by omega) (Ev.now _))
theorem eqValue_ev (a : T58) (h : smSh S58 a) : Ev (fun K _ => laws_eqValue.f K a a) true := by
  obtain ⟨q0, q1, q2, q3, _⟩ := h
  exact Ev.fn (fun k => laws_eqValue.f_eq k a a) (Ev.yes rfl ((eqAtom_ev _ q1).bind (Ev.yes rfl ((eqAtomS_ev _ q2).bind (Ev.yes rfl ((eqStringS_ev _ q3).bind (Ev.yes rfl (Ev.now _))))))))

theorem setOf_ev (l : List T54) (hf : fitSh (.list S54) l) (hs : smSh (.list S54) l) :
    ∃ (k : Int) (m : List T54), Ev (fun K _ => spec_SetOf.f K l) (setV k m) ∧ Ev (fun K _ => impl_SetOf_m.f K l) (k, (0, (0, ((⟨#[]⟩ : ByteArray), ((⟨#[]⟩ : ByteArray), (m, (([] : List ByteArray), ()))))))) ∧ smSh (.list S54) m ∧ m.length ≤ 50 ∧ (k = 0 ∨ k = 2) := by
  have nil : smSh (.list S54) [] := ⟨Nat.zero_le _, fun x hx => by cases hx⟩
  by_cases hl : l.length > 1000
  · exact ⟨0, [], Ev.fn (fun k => spec_SetOf.f_eq k l) (Ev.yes (by omega) (Ev.now _)), Ev.fn (fun k => impl_SetOf_m.f_eq k l) (Ev.yes (by omega) (Ev.now _)), nil, by simp, .inl rfl⟩
  · obtain ⟨s, es, ps, ms⟩ := l1Sorted_ev l (by omega) hf.2
    have e1 := spec_loop l (by omega) hf.2 es l.length 0 (by omega)
    have e2 := good_has l (by omega) hf.2
    rw [List.drop_zero] at e1
    by_cases hg : l.all goodAtom = true
    · rw [if_pos hg] at e1
      rw [hg] at e2
      obtain ⟨l2, e3, hp, hs2⟩ := sortA_ev l (by omega) hf.2
      obtain ⟨m, e4, pm, mm⟩ := compact_ev (by rw [hp.length_eq]; omega) hs2
      have hsm : s = m := strict_eq ordA ps pm fun x => by rw [ms, mm, hp.mem_iff]
      subst hsm
      have i1 : ∀ r, Ev (fun _ _ => ((if ((s.length : Int) : Int) > 50 then (some (0, (0, (0, ((⟨#[]⟩ : ByteArray), ((⟨#[]⟩ : ByteArray), (([] : List T54), (([] : List ByteArray), ())))))))) else (some (2, (0, (0, ((⟨#[]⟩ : ByteArray), ((⟨#[]⟩ : ByteArray), (s, (([] : List ByteArray), ()))))))))) : Option (Int × Int × Int × ByteArray × ByteArray × List T54 × List ByteArray × Unit))) r → Ev (fun K _ => impl_SetOf_m.f K l) r := fun r hr =>
        Ev.fn (fun k => impl_SetOf_m.f_eq k l) (Ev.no (by omega) (e2.bind (Ev.no (by simp) ((cloneA_ev l (by omega)).bind (e3.bind (e4.bind hr))))))
      by_cases q : s.length > 50
      · rw [if_pos q] at e1
        exact ⟨0, [], Ev.fn (fun k => spec_SetOf.f_eq k l) (Ev.no (by omega) (Ev.diag e1)), i1 _ (Ev.yes (by omega) (Ev.now _)), nil, by simp, .inl rfl⟩
      · rw [if_neg q] at e1
        exact ⟨2, s, Ev.fn (fun k => spec_SetOf.f_eq k l) (Ev.no (by omega) (Ev.diag e1)), i1 _ (Ev.no (by omega) (Ev.now _)), ⟨Nat.le_trans (show s.length ≤ 50 by omega) (by omega), fun x hx => hs.2 x ((ms x).1 hx)⟩, by omega, .inr rfl⟩
    · rw [if_neg hg] at e1
      rw [Bool.eq_false_iff.2 hg] at e2
      exact ⟨0, [], Ev.fn (fun k => spec_SetOf.f_eq k l) (Ev.no (by omega) (Ev.diag e1)), Ev.fn (fun k => impl_SetOf_m.f_eq k l) (Ev.no (by omega) (e2.bind (Ev.yes rfl (Ev.now _)))), nil, by simp, .inl rfl⟩
theorem Pure.FnExactSetOf : laws_FnExactSetOf.Pure := by
  intro a0 f0
  apply Ev.rounds
  refine Ev.fn (fun k => laws_FnExactSetOf.f_eq k a0) ?_
  obtain ⟨z, e, _, _, hz⟩ := szAtomS_ok a0 1048576 (by omega) (by omega) f0
  refine e.bind (Ev.ite (fun _ => Ev.now _) fun h3 => ?_)
  have s0 := hz (by omega)
  obtain ⟨k, m, w1, w2, sm, lm, hk⟩ := setOf_ev a0 f0 s0
  have T0 := toAtomS_ev a0 s0
  have sv : smSh S58 (setV k m) := ⟨(show fitSh (.int .i64) k by rcases hk with rfl | rfl <;> exact fit_i64 (by omega)), ⟨(show fitSh (.int .i64) (0 : Int) from fit_i64 (by omega)), (show fitSh (.int .i64) (0 : Int) from fit_i64 (by omega)), Nat.zero_le _, Nat.zero_le _, trivial⟩, sm, ⟨Nat.zero_le _, fun x hx => by cases hx⟩, trivial⟩
  have q1 := eqValue_ev (setV k m) sv
  have hn : a0.length ≤ 1048576 := s0.1
  refine T0.bind (w1.bind (T0.bind (w2.bind (q1.bind (Ev.yes rfl (T0.bind ((eqAtomS_ev a0 s0).bind (Ev.yes rfl ?_))))))))
  obtain ⟨l1, m1, _⟩ := markAtomS_ok a0 1 (by omega) (by omega)
  obtain ⟨l3, m3, d3⟩ := markAtomS_ok m 1 (by omega) (by omega)
  obtain ⟨l4, m4, d4⟩ := markStringS_ok [] (1 + 4 * (m.length : Int)) (by omega) (by simp; omega)
  have mv : Ev (fun K _ => laws_markValue_m.f K m [] k 0 0 (⟨#[]⟩ : ByteArray) (⟨#[]⟩ : ByteArray) 1) (1 + 4 * (m.length : Int) + 1 * (([] : List ByteArray).length : Int), (l3, (l4, ()))) :=
    Ev.fn (fun q => laws_markValue_m.f_eq q m [] k 0 0 _ _ 1) (m3.bind (m4.bind (Ev.now _)))
  have hv : Ev (fun K _ => laws_heldValue.f K (k, ((0, (0, ((⟨#[]⟩ : ByteArray), ((⟨#[]⟩ : ByteArray), ())))), (l3, (l4, ())))) 1) (1 + 4 * (m.length : Int) + 1 * (([] : List ByteArray).length : Int)) :=
    Ev.fn (fun q => laws_heldValue.f_eq q _ 1) (d3.bind (Ev.no (by omega) (d4.bind (Ev.no (by simp; omega) (Ev.now _)))))
  refine m1.bind (Ev.no (by omega) (q1.bind (Ev.yes rfl (mv.bind (hv.bind (Ev.no (by simp; omega) (Ev.yes rfl ?_)))))))
  exact T0.bind (w2.bind (q1.bind (Ev.yes rfl (hv.bind (Ev.no (by simp; omega) (Ev.yes rfl (Ev.now _)))))))

end Go.Proofs.Ytacfnpnaeiagnab.PS
