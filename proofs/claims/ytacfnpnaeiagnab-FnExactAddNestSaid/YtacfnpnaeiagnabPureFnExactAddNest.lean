-- The plain law of this claim: no program in sight but the equations of its functions.
import Derived.Test.YtacfnpnaeiagnabFitFnExactAddNest
import Derived.Test.YtacfnpnaeiagnabDenP
namespace Go.Proofs.Ytacfnpnaeiagnab.PA
open Go Go.Den
open Go.RowKit (wrap64)
set_option linter.unusedVariables false
set_option linter.unusedSimpArgs false
set_option linter.unusedSectionVars false
theorem spec_l1CmpNum_ev (a b : Int) : Ev (fun K _ => spec_l1CmpNum.f K a b) (if a < b then -1 else if a > b then 1 else 0) :=
  Ev.fn (fun k => spec_l1CmpNum.f_eq k a b) (Ev.ite (fun h => Ev.some (by rw [if_pos h])) fun h => Ev.ite (fun g => Ev.some (by rw [if_neg h, if_pos g])) fun g => Ev.some (by rw [if_neg h, if_neg g]))
/-! ### the order of texts -/
def cmpL : List Int → List Int → Int
  | [], [] => 0
  | [], _ :: _ => -1
  | _ :: _, [] => 1
  | a :: l, b :: m => if a = b then cmpL l m else if a < b then -1 else 1
def cmpT (s t : ByteArray) : Int := cmpL (bytesOf s) (bytesOf t)
theorem cmpL_refl : ∀ l : List Int, cmpL l l = 0
  | [] => rfl
  | a :: l => by unfold cmpL; rw [if_pos rfl]; exact cmpL_refl l
theorem cmpL_zero : ∀ {l m : List Int}, cmpL l m = 0 → l = m
  | [], [], _ => rfl
  | [], _ :: _, h => by simp [cmpL] at h
  | _ :: _, [], h => by simp [cmpL] at h
  | a :: l, b :: m, h => by
    unfold cmpL at h
    by_cases e : a = b
    · rw [if_pos e] at h
      rw [e, cmpL_zero h]
    · rw [if_neg e] at h
      split at h <;> omega
theorem cmpL_anti : ∀ (l m : List Int), cmpL m l = - cmpL l m
  | [], [] => rfl
  | [], _ :: _ => rfl
  | _ :: _, [] => rfl
  | a :: l, b :: m => by
    unfold cmpL
    by_cases e : a = b
    · rw [if_pos e, if_pos e.symm]; exact cmpL_anti l m
    · rw [if_neg e, if_neg (Ne.symm e)]
      by_cases h : a < b
      · rw [if_pos h, if_neg (by omega)]; rfl
      · rw [if_neg h, if_pos (by omega)]
theorem cmpL_range (l m : List Int) : cmpL l m = -1 ∨ cmpL l m = 0 ∨ cmpL l m = 1 := by
  induction l generalizing m with
  | nil => cases m <;> simp [cmpL]
  | cons a l ih =>
    cases m with
    | nil => simp [cmpL]
    | cons b m =>
      unfold cmpL
      by_cases e : a = b
      · rw [if_pos e]; exact ih m
      · rw [if_neg e]; split <;> simp
theorem bytesOf_inj {s t : ByteArray} (h : bytesOf s = bytesOf t) : s = t := by
  have e : s.data.toList = t.data.toList := by
    unfold bytesOf at h
    have inj : ∀ (l m : List UInt8), l.map (fun b => (b.toNat : Int)) = m.map (fun b => (b.toNat : Int)) → l = m := by
      intro l
      induction l with
      | nil => intro m h; cases m with
        | nil => rfl
        | cons b m => simp at h
      | cons a l ih => intro m h; cases m with
        | nil => simp at h
        | cons b m =>
          simp only [List.map_cons, List.cons.injEq] at h
          obtain ⟨h1, h2⟩ := h
          have h3 : a.toNat = b.toNat := by omega
          rw [ih m h2, UInt8.toNat_inj.1 h3]
    exact inj _ _ h
  cases s; cases t
  simp only [ByteArray.mk.injEq]
  exact Array.ext' e
theorem cmpT_zero {s t : ByteArray} : cmpT s t = 0 ↔ s = t :=
  ⟨fun h => bytesOf_inj (cmpL_zero h), fun h => by rw [h]; exact cmpL_refl _⟩
theorem cmpT_range (s t : ByteArray) : cmpT s t = -1 ∨ cmpT s t = 0 ∨ cmpT s t = 1 := cmpL_range _ _
theorem bytesLess_iff (s t : ByteArray) : Op.bytesLess s.toList t.toList = true ↔ cmpT s t = -1 := by
  rw [ByteArray.toList_eq, ByteArray.toList_eq]
  unfold cmpT bytesOf
  generalize s.data.toList = l
  generalize t.data.toList = m
  induction l generalizing m with
  | nil => cases m <;> simp [Op.bytesLess, cmpL]
  | cons a l ih =>
    cases m with
    | nil => simp [Op.bytesLess, cmpL]
    | cons b m =>
      simp only [List.map_cons]
      unfold cmpL Op.bytesLess
      by_cases e : a = b
      · subst e
        rw [if_pos rfl, ← ih m]
        simp
      · have hne : (a.toNat : Int) ≠ b.toNat := fun h => e (UInt8.toNat_inj.1 (by omega))
        rw [if_neg hne]
        by_cases h : a < b
        · have : (a.toNat : Int) < b.toNat := by have := UInt8.lt_iff_toNat_lt.1 h; omega
          rw [if_pos this]; simp [h]
        · have h' : ¬ (a.toNat : Int) < b.toNat := fun q => h (UInt8.lt_iff_toNat_lt.2 (by omega))
          rw [if_neg h']; simp [h, e]
theorem spec_l1CmpText_l (s t : ByteArray) (hs : s.size ≤ 140737488351232) (ht : t.size ≤ 140737488351232) : ∀ (d i : Nat), s.size = i + d → i ≤ t.size → Ev (fun K j => spec_l1CmpText.l6 K j s t (i : Int)) (cmpL ((bytesOf s).drop i) ((bytesOf t).drop i)) := by
  have bad : ∀ (i : Nat), i ≤ s.size → i ≤ t.size → (i = s.size ∨ i = t.size) → Ev (fun K _ => (spec_l1CmpNum.f K (s.size : Int) (t.size : Int)).bind fun t0 => some t0) (cmpL ((bytesOf s).drop i) ((bytesOf t).drop i)) := by
    intro i h1 h2 h3
    refine (spec_l1CmpNum_ev _ _).bind (Ev.some ?_)
    rcases h3 with rfl | rfl
    · rw [List.drop_eq_nil_of_le (by rw [bytesOf_length]; exact Nat.le_refl _)]
      by_cases h : s.size < t.size
      · rw [if_pos (by omega), drop_bytes t _ h]; rfl
      · rw [if_neg (by omega), if_neg (by omega), List.drop_eq_nil_of_le (by rw [bytesOf_length]; omega)]; rfl
    · have dz : (bytesOf t).drop t.size = [] := List.drop_eq_nil_of_le (by rw [bytesOf_length]; exact Nat.le_refl _)
      rw [dz]
      by_cases h : t.size < s.size
      · rw [if_neg (by omega), if_pos (by omega), drop_bytes s _ h]; rfl
      · rw [if_neg (by omega), if_neg (by omega), List.drop_eq_nil_of_le (by rw [bytesOf_length]; omega)]; rfl
  intro d
  induction d with
  | zero =>
    intro i h h2
    exact Ev.lp (fun K j => spec_l1CmpText.l6_eq K j s t i) (Ev.no (by omega) (bad i (by omega) h2 (Or.inl (by omega))))
  | succ d ih =>
    intro i h h2
    refine Ev.lp (fun K j => spec_l1CmpText.l6_eq K j s t i) (Ev.yes (by omega) ?_)
    by_cases h3 : i < t.size
    · refine Ev.yes (by omega) (Ev.yes (by omega) (Ev.yes (by omega) ?_))
      rw [drop_bytes s i (by omega), drop_bytes t i h3]
      unfold cmpL
      have b1 := bt_range s i
      have b2 := bt_range t i
      refine Ev.ite (fun e => ?_) fun e => Ev.yes (by omega) (Ev.yes (by omega) ((spec_l1CmpNum_ev _ _).bind (Ev.some ?_)))
      · rw [if_pos e, wrap_nat (by omega)]
        exact ih (i + 1) (by omega) (by omega)
      · rw [if_neg e, wrap_id (by omega) (by omega), wrap_id (by omega) (by omega)]
        by_cases hlt : bt s i < bt t i
        · rw [if_pos hlt, if_pos hlt]
        · rw [if_neg hlt, if_neg hlt, if_pos (by omega)]
    · exact Ev.no (by omega) (bad i (by omega) h2 (Or.inr (by omega)))
theorem spec_l1CmpText_ev (s t : ByteArray) (hs : s.size ≤ 140737488351232) (ht : t.size ≤ 140737488351232) : Ev (fun K _ => spec_l1CmpText.f K s t) (cmpT s t) :=
  Ev.fn (fun k => spec_l1CmpText.f_eq k s t) (Ev.diag (spec_l1CmpText_l s t hs ht s.size 0 (by omega) (by omega)))
theorem less_cmp (s t : ByteArray) : (Op.bytesLess s.toList t.toList = true) ↔ cmpT s t < 0 := by
  rw [bytesLess_iff]
  rcases cmpT_range s t with h | h | h <;> rw [h] <;> decide

/-! ### values beside their measure -/
theorem wf_range {k : IntKind} {x : Int} (h : k.min ≤ x ∧ x ≤ k.max) : (Lit.int k x).wf = true := by
  simp [Lit.wf]; exact h
theorem fit_bool (b : Bool) : fitSh .bool b := trivial
theorem fit_unit : fitSh .unit () := trivial
theorem fit_pair {a b : Sh} {x : sem a} {y : sem b} (h : fitSh a x) (g : fitSh b y) : fitSh (.pair a b) (x, y) := ⟨h, g⟩
theorem fit_lst {t : Sh} {l : List (sem t)} (h : l.length ≤ 140737488351232) (g : allIn (α := sem t) l (fitSh t)) : fitSh (.list t) l := ⟨h, g⟩
theorem fit_dflt : ∀ s : Sh, fitSh s (dflt s)
  | .int k => by cases k <;> rfl
  | .bool => trivial
  | .str => by show (0 : Nat) ≤ _; omega
  | .unit => trivial
  | .pair a b => ⟨fit_dflt a, fit_dflt b⟩
  | .list t => ⟨Nat.zero_le _, fun x hx => by cases hx⟩
theorem fit_rd {t : Sh} {l : List (sem t)} (h : fitSh (.list t) l) (i : Int) : fitSh t (rd (dflt t) l i) := by
  unfold rd
  rw [List.getD_eq_getElem?_getD]
  cases hi : l[i.toNat]? with
  | none => exact fit_dflt t
  | some x => exact h.2 x (List.mem_of_getElem? hi)
theorem fit_cut {t : Sh} {l : List (sem t)} (h : fitSh (.list t) l) (a b : Int) : fitSh (.list t) (cut l a b) := by
  unfold cut
  refine ⟨?_, fun x hx => h.2 x (List.mem_of_mem_take (List.mem_of_mem_drop hx))⟩
  have h1 : l.length ≤ 140737488351232 := h.1
  show List.length _ ≤ _
  rw [List.length_drop, List.length_take]; omega
theorem fit_nil {t : Sh} : fitSh (.list t) ([] : List (sem t)) := ⟨Nat.zero_le _, fun x hx => by cases hx⟩
theorem fit_cons {t : Sh} {x : sem t} {l : List (sem t)} (hx : fitSh t x) (h : allIn (α := sem t) l (fitSh t)) : allIn (α := sem t) (x :: l) (fitSh t) := fun y hy => by
  rcases List.mem_cons.1 hy with rfl | hy
  · exact hx
  · exact h y hy
theorem fit_cutS {s : ByteArray} (h : fitSh .str s) (a b : Int) : fitSh .str (cutS s a b) := by
  have h : s.size ≤ 140737488351232 := h
  show (s.extract a.toNat b.toNat).size ≤ _
  rw [ByteArray.size_extract]; omega
theorem fit_len {n : Nat} (h : n ≤ 140737488351232) : fitSh (.int .i64) (n : Int) := wf_range (by simp only [IntKind.min, IntKind.max, IntKind.signed, IntKind.bits]; constructor <;> simp <;> omega)
theorem fit_wrap (x : Int) : fitSh (.int .i64) (wrap64 x) := wf_range (by simp only [IntKind.min, IntKind.max, IntKind.signed, IntKind.bits]; unfold wrap64; constructor <;> simp <;> omega)
theorem fit_i64 {x : Int} (h : -9223372036854775808 ≤ x ∧ x ≤ 9223372036854775807) : fitSh (.int .i64) x := wf_range (by simp only [IntKind.min, IntKind.max, IntKind.signed, IntKind.bits]; constructor <;> simp <;> omega)
theorem i64_of {x : Int} (h : fitSh (.int .i64) x) : -9223372036854775808 ≤ x ∧ x ≤ 9223372036854775807 := by
  have h : (Lit.int .i64 x).wf = true := h
  simp [Lit.wf, IntKind.min, IntKind.max, IntKind.signed, IntKind.bits] at h
  omega
theorem fit_bytes {s : ByteArray} (h : Nat.ble s.size 140737488351232 = true) : fitSh .str s := Nat.le_of_ble_eq_true h
theorem fit_u8 {x : Int} (h : 0 ≤ x ∧ x ≤ 255) : fitSh (.int .u8) x := wf_range (by simp only [IntKind.min, IntKind.max, IntKind.signed, IntKind.bits]; constructor <;> simp <;> omega)
theorem fit_bt (s : ByteArray) (i : Int) : fitSh (.int .u8) (bt s i) := fit_u8 (bt_range s i)
theorem fit_wfb {k : IntKind} {x : Int} (h : (Lit.int k x).wf = true) : fitSh (.int k) x := h
def EvF (s : Sh) (g : Nat → Nat → Option (sem s)) (r : sem s) : Prop := Ev g r ∧ fitSh s r
section
variable {s s' : Sh} {r : sem s}
theorem EvF.some {a : sem s} (h : a = r) (f : fitSh s r) : EvF s (fun _ _ => Option.some a) r := ⟨Ev.some h, f⟩
theorem EvF.now (f : fitSh s r) : EvF s (fun _ _ => Option.some r) r := ⟨Ev.now r, f⟩
theorem EvF.yes {c : Prop} {inst : Decidable c} {A B : Nat → Nat → Option (sem s)} (h : c) (k : EvF s A r) : EvF s (fun K j => @ite _ c inst (A K j) (B K j)) r := ⟨k.1.congr fun _ _ => if_pos h, k.2⟩
theorem EvF.no {c : Prop} {inst : Decidable c} {A B : Nat → Nat → Option (sem s)} (h : ¬ c) (k : EvF s B r) : EvF s (fun K j => @ite _ c inst (A K j) (B K j)) r := ⟨k.1.congr fun _ _ => if_neg h, k.2⟩
theorem EvF.ite {c : Prop} {inst : Decidable c} {A B : Nat → Nat → Option (sem s)} {x y : sem s} (h : c → EvF s A x) (k : ¬ c → EvF s B y) : EvF s (fun K j => @ite _ c inst (A K j) (B K j)) (@ite _ c inst x y) := by
  by_cases e : c
  · rw [if_pos e]; exact EvF.yes e (h e)
  · rw [if_neg e]; exact EvF.no e (k e)
theorem EvF.bind {g : Nat → Nat → Option (sem s')} {f : Nat → Nat → sem s' → Option (sem s)} {a : sem s'} (h : EvF s' g a) (k : fitSh s' a → EvF s (fun K j => f K j a) r) : EvF s (fun K j => (g K j).bind (f K j)) r :=
  ⟨h.1.bind (k h.2).1, (k h.2).2⟩
theorem EvF.fn {f B : Nat → Option (sem s)} (e : ∀ k, f (k + 1) = B k) (h : EvF s (fun K _ => B K) r) : EvF s (fun K _ => f K) r := ⟨Ev.fn e h.1, h.2⟩
theorem EvF.lp {L B : Nat → Nat → Option (sem s)} (e : ∀ K j, L K (j + 1) = B K j) (h : EvF s B r) : EvF s L r := ⟨Ev.lp e h.1, h.2⟩
theorem EvF.diag {L : Nat → Nat → Option (sem s)} (h : EvF s L r) : EvF s (fun K _ => L K K) r := ⟨Ev.diag h.1, h.2⟩
end
theorem drop_more {α : Type} {l : List α} {i : Nat} {x : α} {r : List α} (h : l.drop i = x :: r) : i < l.length ∧ l.drop (i + 1) = r ∧ ∀ z, rd z l (i : Int) = x := by
  have hi : i < l.length := by
    rcases Nat.lt_or_ge i l.length with q | q
    · exact q
    · rw [List.drop_eq_nil_of_le q] at h; cases h
  rw [List.drop_eq_getElem_cons hi] at h
  obtain ⟨h1, h2⟩ := List.cons.inj h
  exact ⟨hi, h2, fun z => by rw [rd_at z l i hi]; exact h1⟩
theorem drop_none {α : Type} {l : List α} {i : Nat} (h : l.drop i = []) : l.length ≤ i := by
  have := congrArg List.length h
  rw [List.length_drop] at this
  simp at this; omega
theorem bdrop_more {s : ByteArray} {i : Nat} {x : Int} {r : List Int} (h : (bytesOf s).drop i = x :: r) : i < s.size ∧ (bytesOf s).drop (i + 1) = r ∧ bt s (i : Int) = x := by
  have hi : i < s.size := by
    rcases Nat.lt_or_ge i s.size with q | q
    · exact q
    · rw [List.drop_eq_nil_of_le (by rw [bytesOf_length]; exact q)] at h; cases h
  rw [drop_bytes s i hi] at h
  obtain ⟨h1, h2⟩ := List.cons.inj h
  exact ⟨hi, h2, h1⟩
theorem bdrop_none {s : ByteArray} {i : Nat} (h : (bytesOf s).drop i = []) : s.size ≤ i := by
  have := congrArg List.length h
  rw [List.length_drop, bytesOf_length] at this
  simp at this; omega

abbrev spec_l1CmpText.v (s t : ByteArray) : Int := cmpT s t
theorem spec_l1CmpText.v_ev (s t : ByteArray) (f : fitSh .str s) (g : fitSh .str t) : EvF (.int .i64) (fun K _ => spec_l1CmpText.f K s t) (spec_l1CmpText.v s t) := ⟨spec_l1CmpText_ev s t f g, fit_i64 (by rcases cmpT_range s t with h | h | h <;> rw [spec_l1CmpText.v, h] <;> omega)⟩

/-! ### good names -/
def pDigit (a : Int) : Bool := decide (48 ≤ a ∧ a ≤ 57)
def pLetter (a : Int) : Bool := decide (97 ≤ a ∧ a ≤ 122 ∨ 65 ≤ a ∧ a ≤ 90)
def pWord (a : Int) : Bool := pLetter a || pDigit a || decide (a = 95)
def goodName (s : ByteArray) : Bool := decide (1 ≤ s.size ∧ s.size ≤ 30) && !pDigit (bt s 0) && (bytesOf s).all pWord
theorem spec_l1Digit_ev (a : Int) : Ev (fun K _ => spec_l1Digit.f K a) (pDigit a) := by
  refine Ev.fn (fun k => spec_l1Digit.f_eq k a) ?_
  unfold pDigit
  exact Ev.ite (fun _ => Ev.some (by (first | rfl | exact decide_eq_decide.2 (by omega) | exact (decide_eq_false (by omega)).symm | exact (decide_eq_true (by omega)).symm))) fun _ => Ev.some (by (first | rfl | exact decide_eq_decide.2 (by omega) | exact (decide_eq_false (by omega)).symm | exact (decide_eq_true (by omega)).symm))
theorem impl_ydigit_ev (a : Int) : Ev (fun K _ => impl_ydigit.f K a) (pDigit a) := by
  refine Ev.fn (fun k => impl_ydigit.f_eq k a) ?_
  unfold pDigit
  exact Ev.ite (fun _ => Ev.some (by (first | rfl | exact decide_eq_decide.2 (by omega) | exact (decide_eq_false (by omega)).symm | exact (decide_eq_true (by omega)).symm))) fun _ => Ev.some (by (first | rfl | exact decide_eq_decide.2 (by omega) | exact (decide_eq_false (by omega)).symm | exact (decide_eq_true (by omega)).symm))
theorem spec_l1Letter_ev (a : Int) : Ev (fun K _ => spec_l1Letter.f K a) (pLetter a) := by
  refine Ev.fn (fun k => spec_l1Letter.f_eq k a) ?_
  unfold pLetter
  exact Ev.ite (fun _ => Ev.ite (fun _ => Ev.some (by (first | rfl | exact decide_eq_decide.2 (by omega) | exact (decide_eq_false (by omega)).symm | exact (decide_eq_true (by omega)).symm))) fun _ => Ev.ite (fun _ => Ev.some (by (first | rfl | exact decide_eq_decide.2 (by omega) | exact (decide_eq_false (by omega)).symm | exact (decide_eq_true (by omega)).symm))) fun _ => Ev.some (by (first | rfl | exact decide_eq_decide.2 (by omega) | exact (decide_eq_false (by omega)).symm | exact (decide_eq_true (by omega)).symm))) fun _ => Ev.ite (fun _ => Ev.some (by (first | rfl | exact decide_eq_decide.2 (by omega) | exact (decide_eq_false (by omega)).symm | exact (decide_eq_true (by omega)).symm))) fun _ => Ev.some (by (first | rfl | exact decide_eq_decide.2 (by omega) | exact (decide_eq_false (by omega)).symm | exact (decide_eq_true (by omega)).symm))
theorem impl_yletter_ev (a : Int) : Ev (fun K _ => impl_yletter.f K a) (pLetter a) := by
  refine Ev.fn (fun k => impl_yletter.f_eq k a) ?_
  unfold pLetter
  exact Ev.ite (fun _ => Ev.ite (fun _ => Ev.some (by (first | rfl | exact decide_eq_decide.2 (by omega) | exact (decide_eq_false (by omega)).symm | exact (decide_eq_true (by omega)).symm))) fun _ => Ev.ite (fun _ => Ev.some (by (first | rfl | exact decide_eq_decide.2 (by omega) | exact (decide_eq_false (by omega)).symm | exact (decide_eq_true (by omega)).symm))) fun _ => Ev.some (by (first | rfl | exact decide_eq_decide.2 (by omega) | exact (decide_eq_false (by omega)).symm | exact (decide_eq_true (by omega)).symm))) fun _ => Ev.ite (fun _ => Ev.some (by (first | rfl | exact decide_eq_decide.2 (by omega) | exact (decide_eq_false (by omega)).symm | exact (decide_eq_true (by omega)).symm))) fun _ => Ev.some (by (first | rfl | exact decide_eq_decide.2 (by omega) | exact (decide_eq_false (by omega)).symm | exact (decide_eq_true (by omega)).symm))
theorem impl_ywordByte_ev (a : Int) : Ev (fun K _ => impl_ywordByte.f K a) (pWord a) := by
  refine Ev.fn (fun k => impl_ywordByte.f_eq k a) ?_
  unfold pWord
  exact (impl_yletter_ev a).bind (Ev.ite (fun h => Ev.some (by rw [h]; rfl)) fun h => (impl_ydigit_ev a).bind (Ev.ite (fun g => Ev.some (by rw [g]; simp)) fun g => Ev.some (by rw [Bool.eq_false_iff.2 h, Bool.eq_false_iff.2 g]; rfl)))
theorem spec_GoodName_ev (s : ByteArray) (hs : s.size ≤ 140737488351232) : Ev (fun K _ => spec_GoodName.f K s) (goodName s) := by
  refine Ev.fn (fun k => spec_GoodName.f_eq k s) ?_
  unfold goodName
  refine Ev.ite (fun h => Ev.some (by rw [decide_eq_false (by omega)]; rfl)) fun h => Ev.ite (fun h' => Ev.some (by rw [decide_eq_false (by omega)]; rfl)) fun h' => Ev.yes (by omega) ((spec_l1Digit_ev _).bind ?_)
  rw [decide_eq_true (by omega), Bool.true_and]
  refine Ev.ite (fun g => Ev.some (by rw [g]; rfl)) fun g => ?_
  rw [Bool.eq_false_iff.2 g, Bool.not_false, Bool.true_and]
  refine Ev.diag (loop_all (L := fun K j i => spec_GoodName.l14 K j s i) (fun i h hp r hr => ?_) (fun i h hp => ?_) ?_)
  · refine Ev.lp (fun K j => spec_GoodName.l14_eq K j s i) (Ev.yes (by omega) (Ev.yes (by omega) ((spec_l1Letter_ev _).bind ?_)))
    rw [wrap_nat (by omega)]
    refine Ev.ite (fun _ => hr) fun h1 => Ev.yes (by omega) ((spec_l1Digit_ev _).bind (Ev.ite (fun _ => hr) fun h2 => Ev.yes (by omega) (Ev.ite (fun _ => hr) fun h3 => ?_)))
    exfalso
    unfold pWord at hp
    simp [h1, h2, h3] at hp
  · refine Ev.lp (fun K j => spec_GoodName.l14_eq K j s i) (Ev.yes (by omega) (Ev.yes (by omega) ((spec_l1Letter_ev _).bind ?_)))
    unfold pWord at hp
    simp only [Bool.or_eq_false_iff, decide_eq_false_iff_not] at hp
    exact Ev.no (by simp [hp.1.1]) (Ev.yes (by omega) ((spec_l1Digit_ev _).bind (Ev.no (by simp [hp.1.2]) (Ev.yes (by omega) (Ev.no hp.2 (Ev.now _))))))
  · exact Ev.lp (fun K j => spec_GoodName.l14_eq K j s _) (Ev.no (by omega) (Ev.now _))
theorem impl_GoodName_ev (s : ByteArray) (hs : s.size ≤ 140737488351232) : Ev (fun K _ => impl_GoodName.f K s) (goodName s) := by
  refine Ev.fn (fun k => impl_GoodName.f_eq k s) ?_
  unfold goodName
  refine Ev.ite (fun h => Ev.some (by rw [size_nil] at h; rw [decide_eq_false (by omega)]; rfl)) fun h => Ev.ite (fun h' => Ev.some (by rw [decide_eq_false (by omega)]; rfl)) fun h' => ?_
  rw [size_nil] at h
  refine Ev.yes (by omega) ((impl_ydigit_ev _).bind ?_)
  rw [decide_eq_true (by omega), Bool.true_and]
  refine Ev.ite (fun g => Ev.some (by rw [g]; rfl)) fun g => ?_
  rw [Bool.eq_false_iff.2 g, Bool.not_false, Bool.true_and]
  refine Ev.diag (loop_all (L := fun K j i => impl_GoodName.l14 K j s (s.size : Int) i) (fun i h hp r hr => ?_) (fun i h hp => ?_) ?_)
  · refine Ev.lp (fun K j => impl_GoodName.l14_eq K j s _ i) (Ev.yes (by omega) (Ev.yes (by omega) ((impl_ywordByte_ev _).bind (Ev.yes hp ?_))))
    rw [wrap_nat (by omega)]; exact hr
  · exact Ev.lp (fun K j => impl_GoodName.l14_eq K j s _ i) (Ev.yes (by omega) (Ev.yes (by omega) ((impl_ywordByte_ev _).bind (Ev.no (by simp [hp]) (Ev.now _)))))
  · exact Ev.lp (fun K j => impl_GoodName.l14_eq K j s _ _) (Ev.no (by omega) (Ev.now _))

abbrev spec_GoodName.v (s : ByteArray) : Bool := goodName s
theorem spec_GoodName.v_ev (s : ByteArray) (f : fitSh .str s) : EvF .bool (fun K _ => spec_GoodName.f K s) (spec_GoodName.v s) := ⟨spec_GoodName_ev s f, trivial⟩
abbrev impl_GoodName.v (s : ByteArray) : Bool := goodName s
theorem impl_GoodName.v_ev (s : ByteArray) (f : fitSh .str s) : EvF .bool (fun K _ => impl_GoodName.f K s) (impl_GoodName.v s) := ⟨impl_GoodName_ev s f, trivial⟩

/-! ### groups' rows -/
theorem goodName_size {s : ByteArray} (h : goodName s = true) : 1 ≤ s.size ∧ s.size ≤ 30 := by
  unfold goodName at h
  simp only [Bool.and_eq_true, decide_eq_true_eq] at h
  exact h.1.1
def groupName (s : ByteArray) : Bool := goodName s && (decide (bt s 0 ≥ 65) && decide (bt s 0 ≤ 90))
theorem group_ev {f : Nat → Option Bool} {s : ByteArray} (h : EvF .bool (fun K _ => f K) (goodName s)) : EvF .bool (fun K _ => (f K).bind fun t0 => (if t0 = true then (if 0 ≤ (0 : Int) ∧ (0 : Int) < (s.size : Int) then (if ((bt s 0) : Int) ≥ 65 then (if 0 ≤ (0 : Int) ∧ (0 : Int) < (s.size : Int) then (some (decide (((bt s 0) : Int) ≤ 90))) else none) else (some false)) else none) else (some false))) (groupName s) := by
  unfold groupName
  refine ⟨h.1.bind (Ev.ite (fun g => ?_) fun g => Ev.some (by rw [Bool.eq_false_iff.2 g]; rfl)), trivial⟩
  have z := goodName_size g
  rw [g, Bool.true_and]
  exact Ev.yes (by omega) (Ev.ite (fun q => Ev.yes (by omega) (Ev.some (by rw [decide_eq_true q, Bool.true_and]))) fun q => Ev.some (by rw [decide_eq_false q, Bool.false_and]))
abbrev spec_l5Group.v (s : ByteArray) : Bool := groupName s
theorem spec_l5Group.v_ev (s : ByteArray) (f : fitSh .str s) : EvF .bool (fun K _ => spec_l5Group.f K s) (spec_l5Group.v s) := EvF.fn (fun k => spec_l5Group.f_eq k s) (group_ev (spec_GoodName.v_ev s f))
abbrev impl_ygroupName.v (s : ByteArray) : Bool := groupName s
theorem impl_ygroupName.v_ev (s : ByteArray) (f : fitSh .str s) : EvF .bool (fun K _ => impl_ygroupName.f K s) (impl_ygroupName.v s) := EvF.fn (fun k => impl_ygroupName.f_eq k s) (group_ev (impl_GoodName.v_ev s f))
def spec_l5CmpNest.v (a0 : T24) (a1 : T24) : Int :=
  (let t0 := spec_l1CmpText.v a0.1 a1.1; (if (t0 : Int) = 0 then (spec_l1CmpText.v a0.2.1 a1.2.1) else t0))
theorem spec_l5CmpNest.v_ev (a0 : T24) (a1 : T24) (f_a0 : fitSh S24 a0) (f_a1 : fitSh S24 a1) : EvF (.int .i64) (fun K _ => spec_l5CmpNest.f K a0 a1) (spec_l5CmpNest.v a0 a1) := by
  unfold spec_l5CmpNest.v
  exact EvF.fn (fun k => spec_l5CmpNest.f_eq k a0 a1) (EvF.bind (spec_l1CmpText.v_ev _ _ (f_a0.1) (f_a1.1)) fun f_t0 => (EvF.ite (fun h0 => (EvF.bind (spec_l1CmpText.v_ev _ _ (f_a0.2.1) (f_a1.2.1)) fun f_t1 => (EvF.now (f_t1)))) fun h0 => (EvF.now (f_t0))))
def spec_GoodNests.l14.v (x8 : (List T24))  : List T24 → Nat → Bool
  | [], i => true
  | e :: rest, i => (let t0 := spec_l5Group.v e.1; (if t0 = true then (let t1 := spec_GoodName.v e.2.1; (if t1 = true then (if ((i : Int) : Int) > 0 then (let t2 := spec_l5CmpNest.v (rd Z24 x8 (wrap64 ((i : Int) - 1))) e; (if (t2 : Int) ≥ 0 then false else (spec_GoodNests.l14.v x8 rest (i + 1)))) else (spec_GoodNests.l14.v x8 rest (i + 1))) else false)) else false))
theorem spec_GoodNests.l14.v_ev (x8 : (List T24)) (f_x8 : fitSh (.list S24) x8)  : ∀ (rest : List T24) (i : Nat)  , x8.drop i = rest → EvF .bool (fun K j => spec_GoodNests.l14 K j x8 x8 (x8.length : Int) (i : Int)) (spec_GoodNests.l14.v x8 rest i ) := by
  have bX : x8.length ≤ 140737488351232 := f_x8.1
  intro rest
  induction rest with
  | nil =>
    intro i hd
    have hz := drop_none hd
    unfold spec_GoodNests.l14.v
    exact EvF.lp (fun K j => spec_GoodNests.l14_eq K j x8 x8 (x8.length : Int) (i : Int)) (EvF.no (by omega) (EvF.now (fit_bool _)))
  | cons e rest ih =>
    intro i hd
    obtain ⟨hlt, hd2, hx⟩ := drop_more hd
    have f_e : fitSh S24 e := hx (dflt S24) ▸ fit_rd f_x8 _
    have f_i : fitSh (.int .i64) (i : Int) := fit_len (by omega)
    unfold spec_GoodNests.l14.v
    refine EvF.lp (fun K j => spec_GoodNests.l14_eq K j x8 x8 (x8.length : Int) (i : Int)) (EvF.yes (by omega) ?_)
    try rw [hx]
    try rw [wrap_nat (i := i) (by omega)]
    exact (EvF.yes (by first | omega | (simp only [wrap64] at *; omega)) (EvF.bind (spec_l5Group.v_ev _ (f_e.1)) fun f_t0 => (EvF.ite (fun h0 => (EvF.bind (spec_GoodName.v_ev _ (f_e.2.1)) fun f_t1 => (EvF.ite (fun h1 => (EvF.ite (fun h2 => (EvF.yes (by first | omega | (simp only [wrap64] at *; omega)) (EvF.bind (spec_l5CmpNest.v_ev _ _ ((fit_rd (f_x8) _)) (f_e)) fun f_t2 => (EvF.ite (fun h3 => (EvF.now (fit_bool _))) fun h3 => (ih (i + 1)   hd2))))) fun h2 => (ih (i + 1)   hd2))) fun h1 => (EvF.now (fit_bool _))))) fun h0 => (EvF.now (fit_bool _)))))
def spec_GoodNests.v (a0 : (List T24)) : Bool :=
  (if ((a0.length : Int) : Int) > 200 then false else (spec_GoodNests.l14.v a0 a0 0))
theorem spec_GoodNests.v_ev (a0 : (List T24)) (f_a0 : fitSh (.list S24) a0) : EvF .bool (fun K _ => spec_GoodNests.f K a0) (spec_GoodNests.v a0) := by
  unfold spec_GoodNests.v
  exact EvF.fn (fun k => spec_GoodNests.f_eq k a0) (EvF.ite (fun h0 => (EvF.now (fit_bool _))) fun h0 => (EvF.diag (spec_GoodNests.l14.v_ev a0 (f_a0)  _ 0    rfl)))

def impl_ygoodNest.v (a0 : T24) : Bool :=
  (let t0 := impl_ygroupName.v a0.1; (if t0 = true then (impl_GoodName.v a0.2.1) else false))
theorem impl_ygoodNest.v_ev (a0 : T24) (f_a0 : fitSh S24 a0) : EvF .bool (fun K _ => impl_ygoodNest.f K a0) (impl_ygoodNest.v a0) := by
  unfold impl_ygoodNest.v
  exact EvF.fn (fun k => impl_ygoodNest.f_eq k a0) (EvF.bind (impl_ygroupName.v_ev _ (f_a0.1)) fun f_t0 => (EvF.ite (fun h0 => (EvF.bind (impl_GoodName.v_ev _ (f_a0.2.1)) fun f_t1 => (EvF.now (fit_bool _)))) fun h0 => (EvF.now (fit_bool _))))
def cmp_isNaN_string.v (a0 : ByteArray) : Bool :=
  (!(decide (a0.toList = a0.toList)))
theorem cmp_isNaN_string.v_ev (a0 : ByteArray) (f_a0 : fitSh .str a0) : EvF .bool (fun K _ => cmp_isNaN_string.f K a0) (cmp_isNaN_string.v a0) := by
  unfold cmp_isNaN_string.v
  exact EvF.fn (fun k => cmp_isNaN_string.f_eq k a0) (EvF.now (fit_bool _))
def cmp_Compare_string.v (a0 : ByteArray) (a1 : ByteArray) : Int :=
  (let t0 := cmp_isNaN_string.v a0; (let t1 := cmp_isNaN_string.v a1; (if t0 = true then (if t1 = true then 0 else (-1)) else (if t1 = true then 1 else (if (Op.bytesLess a0.toList a1.toList) = true then (-1) else (if (Op.bytesLess a0.toList a1.toList || decide (a0.toList = a1.toList)) = true then 0 else 1))))))
theorem cmp_Compare_string.v_ev (a0 : ByteArray) (a1 : ByteArray) (f_a0 : fitSh .str a0) (f_a1 : fitSh .str a1) : EvF (.int .i64) (fun K _ => cmp_Compare_string.f K a0 a1) (cmp_Compare_string.v a0 a1) := by
  unfold cmp_Compare_string.v
  exact EvF.fn (fun k => cmp_Compare_string.f_eq k a0 a1) (EvF.bind (cmp_isNaN_string.v_ev _ (f_a0)) fun f_t0 => (EvF.bind (cmp_isNaN_string.v_ev _ (f_a1)) fun f_t1 => (EvF.ite (fun h0 => (EvF.ite (fun h1 => (EvF.now ((fit_wfb rfl)))) fun h1 => (EvF.now ((fit_wfb rfl))))) fun h0 => (EvF.ite (fun h1 => (EvF.now ((fit_wfb rfl)))) fun h1 => (EvF.ite (fun h2 => (EvF.now ((fit_wfb rfl)))) fun h2 => (EvF.ite (fun h3 => (EvF.now ((fit_wfb rfl)))) fun h3 => (EvF.now ((fit_wfb rfl)))))))))
def cmp_Or_int.l8.v (x3 : Int)  : List Int → Nat → Int
  | [], i => x3
  | e :: rest, i => (if (e : Int) = x3 then (cmp_Or_int.l8.v x3 rest (i + 1)) else e)
theorem cmp_Or_int.l8.v_ev (x3 : Int) (x6 : (List Int)) (f_x3 : fitSh (.int .i64) x3) (f_x6 : fitSh (.list (.int .i64)) x6)  : ∀ (rest : List Int) (i : Nat)  , x6.drop i = rest → EvF (.int .i64) (fun K j => cmp_Or_int.l8 K j x3 x6 (x6.length : Int) (i : Int)) (cmp_Or_int.l8.v x3 rest i ) := by
  have bX : x6.length ≤ 140737488351232 := f_x6.1
  intro rest
  induction rest with
  | nil =>
    intro i hd
    have hz := drop_none hd
    unfold cmp_Or_int.l8.v
    exact EvF.lp (fun K j => cmp_Or_int.l8_eq K j x3 x6 (x6.length : Int) (i : Int)) (EvF.no (by omega) (EvF.now (f_x3)))
  | cons e rest ih =>
    intro i hd
    obtain ⟨hlt, hd2, hx⟩ := drop_more hd
    have f_e : fitSh (.int .i64) e := hx (dflt (.int .i64)) ▸ fit_rd f_x6 _
    have f_i : fitSh (.int .i64) (i : Int) := fit_len (by omega)
    unfold cmp_Or_int.l8.v
    refine EvF.lp (fun K j => cmp_Or_int.l8_eq K j x3 x6 (x6.length : Int) (i : Int)) (EvF.yes (by omega) ?_)
    try rw [hx]
    try rw [wrap_nat (i := i) (by omega)]
    exact (EvF.yes (by first | omega | (simp only [wrap64] at *; omega)) (EvF.ite (fun h0 => (ih (i + 1)   hd2)) fun h0 => (EvF.now (f_e))))
def cmp_Or_int.v (a0 : (List Int)) : Int :=
  (cmp_Or_int.l8.v 0 a0 0)
theorem cmp_Or_int.v_ev (a0 : (List Int)) (f_a0 : fitSh (.list (.int .i64)) a0) : EvF (.int .i64) (fun K _ => cmp_Or_int.f K a0) (cmp_Or_int.v a0) := by
  unfold cmp_Or_int.v
  exact EvF.fn (fun k => cmp_Or_int.f_eq k a0) (EvF.diag (cmp_Or_int.l8.v_ev 0 a0 ((fit_wfb rfl)) (f_a0)  _ 0    rfl))
def impl_ycmpNest.v (a0 : T24) (a1 : T24) : Int :=
  (let t0 := cmp_Compare_string.v a0.1 a1.1; (let t1 := cmp_Compare_string.v a0.2.1 a1.2.1; (cmp_Or_int.v [t0, t1])))
theorem impl_ycmpNest.v_ev (a0 : T24) (a1 : T24) (f_a0 : fitSh S24 a0) (f_a1 : fitSh S24 a1) : EvF (.int .i64) (fun K _ => impl_ycmpNest.f K a0 a1) (impl_ycmpNest.v a0 a1) := by
  unfold impl_ycmpNest.v
  exact EvF.fn (fun k => impl_ycmpNest.f_eq k a0 a1) (EvF.bind (cmp_Compare_string.v_ev _ _ (f_a0.1) (f_a1.1)) fun f_t0 => (EvF.bind (cmp_Compare_string.v_ev _ _ (f_a0.2.1) (f_a1.2.1)) fun f_t1 => (EvF.bind (cmp_Or_int.v_ev _ (fit_lst (Nat.le_of_ble_eq_true rfl) (fit_cons (f_t0) (fit_cons (f_t1) (fun _ hx => by cases hx))))) fun f_t2 => (EvF.now (f_t2)))))
def impl_GoodNests.l14.v (x8 : (List T24))  : List T24 → Nat → Bool
  | [], i => true
  | e :: rest, i => (let t0 := impl_ygoodNest.v e; (if t0 = true then (if ((i : Int) : Int) > 0 then (let t1 := impl_ycmpNest.v (rd Z24 x8 (wrap64 ((i : Int) - 1))) e; (if (t1 : Int) ≥ 0 then false else (impl_GoodNests.l14.v x8 rest (i + 1)))) else (impl_GoodNests.l14.v x8 rest (i + 1))) else false))
theorem impl_GoodNests.l14.v_ev (x8 : (List T24)) (f_x8 : fitSh (.list S24) x8)  : ∀ (rest : List T24) (i : Nat)  , x8.drop i = rest → EvF .bool (fun K j => impl_GoodNests.l14 K j x8 x8 (x8.length : Int) (i : Int)) (impl_GoodNests.l14.v x8 rest i ) := by
  have bX : x8.length ≤ 140737488351232 := f_x8.1
  intro rest
  induction rest with
  | nil =>
    intro i hd
    have hz := drop_none hd
    unfold impl_GoodNests.l14.v
    exact EvF.lp (fun K j => impl_GoodNests.l14_eq K j x8 x8 (x8.length : Int) (i : Int)) (EvF.no (by omega) (EvF.now (fit_bool _)))
  | cons e rest ih =>
    intro i hd
    obtain ⟨hlt, hd2, hx⟩ := drop_more hd
    have f_e : fitSh S24 e := hx (dflt S24) ▸ fit_rd f_x8 _
    have f_i : fitSh (.int .i64) (i : Int) := fit_len (by omega)
    unfold impl_GoodNests.l14.v
    refine EvF.lp (fun K j => impl_GoodNests.l14_eq K j x8 x8 (x8.length : Int) (i : Int)) (EvF.yes (by omega) ?_)
    try rw [hx]
    try rw [wrap_nat (i := i) (by omega)]
    exact (EvF.yes (by first | omega | (simp only [wrap64] at *; omega)) (EvF.bind (impl_ygoodNest.v_ev _ (f_e)) fun f_t0 => (EvF.ite (fun h0 => (EvF.ite (fun h1 => (EvF.yes (by first | omega | (simp only [wrap64] at *; omega)) (EvF.bind (impl_ycmpNest.v_ev _ _ ((fit_rd (f_x8) _)) (f_e)) fun f_t1 => (EvF.ite (fun h2 => (EvF.now (fit_bool _))) fun h2 => (ih (i + 1)   hd2))))) fun h1 => (ih (i + 1)   hd2))) fun h0 => (EvF.now (fit_bool _)))))
def impl_GoodNests.v (a0 : (List T24)) : Bool :=
  (if ((a0.length : Int) : Int) > 200 then false else (impl_GoodNests.l14.v a0 a0 0))
theorem impl_GoodNests.v_ev (a0 : (List T24)) (f_a0 : fitSh (.list S24) a0) : EvF .bool (fun K _ => impl_GoodNests.f K a0) (impl_GoodNests.v a0) := by
  unfold impl_GoodNests.v
  exact EvF.fn (fun k => impl_GoodNests.f_eq k a0) (EvF.ite (fun h0 => (EvF.now (fit_bool _))) fun h0 => (EvF.diag (impl_GoodNests.l14.v_ev a0 (f_a0)  _ 0    rfl)))

theorem compare_string (s t : ByteArray) : cmp_Compare_string.v s t = cmpT s t := by
  unfold cmp_Compare_string.v cmp_isNaN_string.v
  simp only [decide_true, Bool.not_true, Bool.false_eq_true, if_false]
  by_cases h : Op.bytesLess s.toList t.toList = true
  · rw [if_pos h, (bytesLess_iff s t).1 h]
  · have h1 : cmpT s t ≠ -1 := fun q => h ((bytesLess_iff s t).2 q)
    rw [if_neg h]
    by_cases e : s.toList = t.toList
    · have e2 : s = t := bytesOf_inj (by
        have e1 : s.data.toList = t.data.toList := by rw [← ByteArray.toList_eq, ← ByteArray.toList_eq, e]
        unfold bytesOf; rw [e1])
      rw [if_pos (by simp [e]), cmpT_zero.2 e2]
    · have h2 : cmpT s t ≠ 0 := fun q => e (by rw [cmpT_zero.1 q])
      rw [if_neg (by simp [h, e])]
      rcases cmpT_range s t with q | q | q <;> omega
theorem or2 (a b : Int) : cmp_Or_int.v [a, b] = if a = 0 then b else a := by
  unfold cmp_Or_int.v
  simp only [cmp_Or_int.l8.v]
  by_cases h : b = 0
  · rw [if_pos h, h]
  · rw [if_neg h]
theorem cmpNest_same (a b : T24) : impl_ycmpNest.v a b = spec_l5CmpNest.v a b := by
  unfold impl_ycmpNest.v spec_l5CmpNest.v
  simp only [compare_string, or2]
theorem nests_loop (x0 : List T24) : ∀ (rest : List T24) (i : Nat), impl_GoodNests.l14.v x0 rest i = spec_GoodNests.l14.v x0 rest i
  | [], _ => rfl
  | e :: rest, i => by
    unfold impl_GoodNests.l14.v spec_GoodNests.l14.v
    rw [nests_loop x0 rest (i + 1)]
    unfold impl_ygoodNest.v
    simp only [cmpNest_same, impl_ygroupName.v, spec_l5Group.v, impl_GoodName.v, spec_GoodName.v]
    by_cases h : groupName e.1 = true
    · simp only [if_pos h]
    · simp only [if_neg h, Bool.false_eq_true, if_false]
theorem nests_same (g : List T24) : impl_GoodNests.v g = spec_GoodNests.v g := by
  unfold impl_GoodNests.v spec_GoodNests.v
  simp only [nests_loop]
theorem nests_len {g : List T24} (h : spec_GoodNests.v g = true) : g.length ≤ 200 := by
  unfold spec_GoodNests.v at h
  split at h
  · cases h
  · omega

/-! ### the law's measure -/
def SzP (g : Nat → Nat → Option Int) (m : Int) (P : Prop) : Prop := ∃ r, Ev g r ∧ -1 ≤ r ∧ r ≤ m ∧ (0 ≤ r → P)
theorem SzP.now {r m : Int} {P : Prop} (h : -1 ≤ r) (h1 : r ≤ m) (p : P) : SzP (fun _ _ => some r) m P := ⟨r, Ev.now _, h, h1, fun _ => p⟩
theorem SzP.cut {c : Prop} {inst : Decidable c} {B : Nat → Nat → Option Int} {m : Int} {P : Prop} (hm : -1 ≤ m) (h : ¬ c → SzP B m P) : SzP (fun K j => @ite _ c inst (some (-1)) (B K j)) m P := by
  by_cases e : c
  · exact ⟨-1, Ev.yes e (Ev.now _), by omega, hm, fun h => by omega⟩
  · obtain ⟨r, q, q1, q2, q3⟩ := h e
    exact ⟨r, Ev.no e q, q1, q2, q3⟩
theorem SzP.bind {g : Nat → Nat → Option Int} {f : Nat → Nat → Int → Option Int} {m m' : Int} {P P' : Prop} (h : SzP g m' P') (hm : -1 ≤ m) (k : ∀ r, 0 ≤ r → r ≤ m' → P' → SzP (fun K j => f K j r) m P) :
    SzP (fun K j => (g K j).bind fun t => if t < 0 then some (-1) else f K j t) m P := by
  obtain ⟨r, q, q1, q2, q3⟩ := h
  by_cases e : r < 0
  · exact ⟨-1, q.bind (Ev.yes e (Ev.now _)), by omega, hm, fun h => by omega⟩
  · obtain ⟨s, z, z1, z2, z3⟩ := k r (by omega) q2 (q3 (by omega))
    exact ⟨s, q.bind (Ev.no e z), z1, z2, z3⟩
theorem SzP.fn {f B : Nat → Option Int} {m : Int} {P : Prop} (e : ∀ k, f (k + 1) = B k) (h : SzP (fun K _ => B K) m P) : SzP (fun K _ => f K) m P := by
  obtain ⟨r, q, q1, q2, q3⟩ := h; exact ⟨r, Ev.fn e q, q1, q2, q3⟩
theorem SzP.imp {g : Nat → Nat → Option Int} {m m' : Int} {P P' : Prop} (h : SzP g m P) (hm : m ≤ m') (hp : P → P') : SzP g m' P' := by
  obtain ⟨r, q, q1, q2, q3⟩ := h; exact ⟨r, q, q1, by omega, fun z => hp (q3 z)⟩

/-! ### what the law's measure leaves: everything is short -/
def smSh : (s : Sh) → sem s → Prop
  | .int k, x => (Lit.int k x).wf = true
  | .bool, _ => True
  | .str, s => (s : ByteArray).size ≤ 1048576
  | .unit, _ => True
  | .pair a b, x => smSh a x.1 ∧ smSh b x.2
  | .list t, l => (l : List (sem t)).length ≤ 1048576 ∧ allIn (α := sem t) l (smSh t)
theorem SzP.len {g : Nat → Nat → Option Int} {m : Int} {P : Prop} (h : SzP g m P) (q : P) : SzP g m P := h
/-- a loop that measures a row's elements -/
theorem sz_row {α : Type} {L : Nat → Nat → Int → Int → Option Int} {l : List α} {P : α → Prop}
    (step : ∀ (i : Nat) (h : i < l.length) (m : Int), 0 ≤ m → m ≤ 1048576 → ∃ r, -1 ≤ r ∧ r ≤ m ∧ (0 ≤ r → P l[i]) ∧ (r < 0 → Ev (fun K j => L K j m (i : Int)) (-1)) ∧ (0 ≤ r → ∀ s, Ev (fun K j => L K j r ((i + 1 : Nat) : Int)) s → Ev (fun K j => L K j m (i : Int)) s))
    (done : ∀ m : Int, Ev (fun K j => L K j m (l.length : Int)) m) : ∀ (d i : Nat) (m : Int), l.length = i + d → 0 ≤ m → m ≤ 1048576 → SzP (fun K j => L K j m (i : Int)) m (∀ x ∈ l.drop i, P x) := by
  intro d
  induction d with
  | zero =>
    intro i m h h0 h1
    obtain rfl : i = l.length := by omega
    exact ⟨m, done m, by omega, by omega, fun _ x hx => by rw [List.drop_length] at hx; cases hx⟩
  | succ d ih =>
    intro i m h h0 h1
    obtain ⟨r, r1, r2, r3, r4, r5⟩ := step i (by omega) m h0 h1
    by_cases hr : r < 0
    · exact ⟨-1, r4 hr, by omega, by omega, fun h => by omega⟩
    · obtain ⟨s, q, q1, q2, q3⟩ := ih (i + 1) r (by omega) (by omega) (by omega)
      refine ⟨s, r5 (by omega) s q, q1, by omega, fun hs x hx => ?_⟩
      rw [List.drop_eq_getElem_cons (show i < l.length by omega)] at hx
      rcases List.mem_cons.1 hx with rfl | hx
      · exact r3 (by omega)
      · exact q3 hs x hx
theorem SzP.loop {L : Nat → Nat → Int → Int → Option Int} {m : Int} {P P' : Prop} (h : SzP (fun K j => L K j m 0) m P) (hp : P → P') : SzP (fun K _ => L K K m 0) m P' := by
  obtain ⟨r, q, q1, q2, q3⟩ := h
  exact ⟨r, Ev.diag q, q1, q2, fun z => hp (q3 z)⟩

/-! ### marks: what markX writes, heldX finds -/
theorem markText_loop : ∀ (n x : Nat) (s : ByteArray), x < 10 ^ n → n ≤ 20 → x ≤ 9000000000000000000 → s.size + n ≤ 1000 → ∃ r, Ev (fun K j => laws_markText.l14 K j (x : Int) s) r
  | 0, x, s, hx, hn, hb, hs => by
    have h0 : x = 0 := by simpa using hx
    subst h0
    exact ⟨_, Ev.lp (fun K j => laws_markText.l14_eq K j _ s) (Ev.no (by omega) (Ev.yes (by show 1 + s.size ≤ lim; unfold lim; omega) (Ev.now _)))⟩
  | n + 1, x, s, hx, hn, hb, hs => by
    by_cases h : x = 0
    · subst h
      exact ⟨_, Ev.lp (fun K j => laws_markText.l14_eq K j _ s) (Ev.no (by omega) (Ev.yes (by show 1 + s.size ≤ lim; unfold lim; omega) (Ev.now _)))⟩
    · have e : wrap64 (quoI (x : Int) 10) = ((x / 10 : Nat) : Int) := by
        unfold quoI
        rw [Int.tdiv_eq_ediv_of_nonneg (by omega), wrap_id (by omega) (by omega)]
        omega
      have hs1 : (appS (utfB [(wr .u8 (wrap64 (48 + (remI (x : Int) 10))))]) s).size = 1 + s.size := by
        unfold appS
        rw [ByteArray.size_append]; rfl
      obtain ⟨r, hr⟩ := markText_loop n (x / 10) (appS (utfB [(wr .u8 (wrap64 (48 + (remI (x : Int) 10))))]) s) (by rw [Nat.pow_succ] at hx; omega) (by omega) (by omega) (by omega)
      refine ⟨r, Ev.lp (fun K j => laws_markText.l14_eq K j _ s) (Ev.yes (by omega) (Ev.yes (by show 1 + s.size ≤ lim; unfold lim; omega) ?_))⟩
      rw [e]
      exact hr
theorem markText_ev (k : Int) (h : 0 ≤ k ∧ k ≤ 9000000000000000000) : ∃ r, Ev (fun K _ => laws_markText.f K k) r := by
  by_cases h0 : k ≤ 0
  · exact ⟨_, Ev.fn (fun q => laws_markText.f_eq q k) (Ev.yes h0 (Ev.now _))⟩
  · obtain ⟨r, hr⟩ := markText_loop 19 k.toNat ⟨#[]⟩ (by omega) (by omega) (by omega) (by show 0 + 19 ≤ 1000; omega)
    rw [Int.toNat_of_nonneg (by omega)] at hr
    exact ⟨r, Ev.fn (fun q => laws_markText.f_eq q k) (Ev.no h0 (Ev.diag hr))⟩
open Classical in
noncomputable def mkT (k : Int) : ByteArray := if h : 0 ≤ k ∧ k ≤ 9000000000000000000 then Classical.choose (markText_ev k h) else ⟨#[]⟩
theorem mkT_ev {k : Int} (h0 : 0 ≤ k) (h1 : k ≤ 9000000000000000000) : Ev (fun K _ => laws_markText.f K k) (mkT k) := by
  unfold mkT
  rw [dif_pos ⟨h0, h1⟩]
  exact Classical.choose_spec (markText_ev k ⟨h0, h1⟩)
theorem Ev.slet {α β : Type} {f : Nat → Nat → α → Option β} {a : α} {r : β} (h : Ev (fun K j => f K j a) r) : Ev (fun K j => (some a).bind (f K j)) r := h
theorem copy_loopW {α β : Type} {W : List α → β} {L : Nat → Nat → Int → List α → Option β} {l : List α}
    (step : ∀ (i : Nat) (h : i < l.length) (y : List α), y.length = l.length → ∀ r, Ev (fun K j => L K j ((i + 1 : Nat) : Int) (put y (i : Int) l[i])) r → Ev (fun K j => L K j (i : Int) y) r)
    (done : ∀ y : List α, Ev (fun K j => L K j (l.length : Int) y) (W y)) : ∀ (d i : Nat) (y : List α), l.length = i + d → y.length = l.length → y.take i = l.take i → Ev (fun K j => L K j (i : Int) y) (W l) := by
  intro d
  induction d with
  | zero =>
    intro i y h hy ht
    obtain rfl : i = l.length := by omega
    rw [List.take_length, ← hy, List.take_length] at ht
    subst ht
    exact done y
  | succ d ih =>
    intro i y h hy ht
    refine step i (by omega) y hy _ (ih (i + 1) _ (by omega) (by unfold put; rw [List.length_set]; exact hy) ?_)
    unfold put
    rw [Int.toNat_natCast, List.take_succ_eq_append_getElem (by rw [List.length_set]; omega), List.take_succ_eq_append_getElem (show i < l.length by omega), List.getElem_set_self, List.take_set_of_le (Nat.le_refl _), ht]
theorem put_nat {α : Type} (l : List α) (i : Nat) (x : α) : put l (i : Int) x = l.set i x := by unfold put; rw [Int.toNat_natCast]
theorem put_length {α : Type} (l : List α) (i : Int) (x : α) : (put l i x).length = l.length := by unfold put; rw [List.length_set]
theorem put_put {α : Type} (l : List α) (i : Int) (x y : α) : put (put l i x) i y = put l i y := by unfold put; rw [List.set_set]
theorem rd_put {α : Type} (z : α) (l : List α) (i : Nat) (x : α) (h : i < l.length) : rd z (put l (i : Int) x) (i : Int) = x := by
  rw [rd_at _ _ _ (by rw [put_length]; exact h)]
  simp only [put_nat, List.getElem_set_self]
theorem mark_loop {α : Type} {L : Nat → Nat → Int → Int → List α → Option (Int × List α × Unit)} {mk : Int → α → α} {c n : Nat}
    (step : ∀ (i : Nat) (k : Int) (y : List α) (h : i < y.length), y.length = n → 0 ≤ k → k + c ≤ 4000000000000000000 → ∀ r, Ev (fun K j => L K j (k + c) ((i + 1 : Nat) : Int) (put y (i : Int) (mk k y[i]))) r → Ev (fun K j => L K j k (i : Int) y) r)
    (done : ∀ (k : Int) (y : List α), y.length = n → Ev (fun K j => L K j k (n : Int) y) (k, y, ())) :
    ∀ (d i : Nat) (k : Int) (y : List α), y.length = n → n = i + d → 0 ≤ k → k + (c : Int) * d ≤ 4000000000000000000 →
      ∃ y' : List α, y'.length = n ∧ y'.take i = y.take i ∧ (∀ e, e < d → ∃ x, y'[i + e]? = some (mk (k + (c : Int) * e) x)) ∧ Ev (fun K j => L K j k (i : Int) y) (k + (c : Int) * d, y', ())
  | 0, i, k, y, hy, hn, h0, h1 => by
    obtain rfl : n = i := by omega
    refine ⟨y, hy, rfl, fun e he => absurd he (Nat.not_lt_zero _), ?_⟩
    rw [show k + (c : Int) * ((0 : Nat) : Int) = k by simp]
    exact done k y hy
  | d + 1, i, k, y, hy, hn, h0, h1 => by
    have hm : (c : Int) * ((d + 1 : Nat) : Int) = c + (c : Int) * d := by rw [Int.natCast_succ, Int.mul_add, Int.mul_one, Int.add_comm]
    have hcd : 0 ≤ (c : Int) * (d : Int) := Int.mul_nonneg (by omega) (by omega)
    rw [hm] at h1 ⊢
    obtain ⟨y', a1, a2, a3, a4⟩ := mark_loop step done d (i + 1) (k + c) (put y (i : Int) (mk k (y[i]'(by omega)))) (by rw [put_length]; exact hy) (by omega) (by omega) (by omega)
    refine ⟨y', a1, ?_, fun e he => ?_, step i k y (by omega) hy h0 (by omega) _ (by rw [Int.add_assoc] at a4; exact a4)⟩
    · have := congrArg (List.take i) a2
      rw [List.take_take, List.take_take, Nat.min_eq_left (by omega), put_nat, List.take_set_of_le (Nat.le_refl _)] at this
      exact this
    · cases e with
      | zero =>
        refine ⟨y[i]'(by omega), ?_⟩
        have := congrArg (fun l => l[i]?) a2
        simp only [List.getElem?_take] at this
        rw [if_pos (by omega), if_pos (by omega), put_nat, List.getElem?_set_self (by omega)] at this
        rw [show k + (c : Int) * ((0 : Nat) : Int) = k by simp]
        exact this
      | succ e =>
        obtain ⟨x, hx⟩ := a3 e (by omega)
        refine ⟨x, ?_⟩
        rw [show i + (e + 1) = i + 1 + e by omega, hx, show (c : Int) * ((e + 1 : Nat) : Int) = c + (c : Int) * e by rw [Int.natCast_succ, Int.mul_add, Int.mul_one, Int.add_comm], Int.add_assoc]
theorem held_loop {α : Type} {L : Nat → Nat → Int → Int → Option Int} {mk : Int → α → α} {c : Nat} {l : List α}
    (step : ∀ (i : Nat) (k : Int) (h : i < l.length) (x : α), l[i] = mk k x → 0 ≤ k → k + c ≤ 4000000000000000000 → ∀ r, Ev (fun K j => L K j (k + c) ((i + 1 : Nat) : Int)) r → Ev (fun K j => L K j k (i : Int)) r)
    (done : ∀ k : Int, Ev (fun K j => L K j k (l.length : Int)) k) :
    ∀ (d i : Nat) (k : Int), l.length = i + d → 0 ≤ k → k + (c : Int) * d ≤ 4000000000000000000 → (∀ e, e < d → ∃ x, l[i + e]? = some (mk (k + (c : Int) * e) x)) → Ev (fun K j => L K j k (i : Int)) (k + (c : Int) * d)
  | 0, i, k, hn, h0, h1, ha => by
    obtain rfl : i = l.length := by omega
    rw [show k + (c : Int) * ((0 : Nat) : Int) = k by simp]
    exact done k
  | d + 1, i, k, hn, h0, h1, ha => by
    have hm : (c : Int) * ((d + 1 : Nat) : Int) = c + (c : Int) * d := by rw [Int.natCast_succ, Int.mul_add, Int.mul_one, Int.add_comm]
    have hcd : 0 ≤ (c : Int) * (d : Int) := Int.mul_nonneg (by omega) (by omega)
    rw [hm] at h1 ⊢
    obtain ⟨x, hx⟩ := ha 0 (by omega)
    rw [Nat.add_zero, List.getElem?_eq_getElem (by omega), show k + (c : Int) * ((0 : Nat) : Int) = k by simp] at hx
    refine step i k (by omega) x (Option.some.inj hx) h0 (by omega) _ ?_
    rw [← Int.add_assoc]
    refine held_loop step done d (i + 1) (k + c) (by omega) (by omega) (by omega) fun e he => ?_
    obtain ⟨x, hx⟩ := ha (e + 1) (by omega)
    refine ⟨x, ?_⟩
    rw [show i + 1 + e = i + (e + 1) by omega, hx, show (c : Int) * ((e + 1 : Nat) : Int) = c + (c : Int) * e by rw [Int.natCast_succ, Int.mul_add, Int.mul_one, Int.add_comm], Int.add_assoc]

/-! ### what is reached, and by how many steps -/
def stepsTo (g : List T24) (u : ByteArray) : Nat → ByteArray → Prop
  | 0, m => m = u
  | k + 1, m => ∃ e ∈ g, stepsTo g u k e.1 ∧ e.2.1 = m
def firstAt (g : List T24) (u : ByteArray) (k : Nat) (m : ByteArray) : Prop := stepsTo g u k m ∧ ∀ j, 1 ≤ j → j < k → ¬ stepsTo g u j m
def seenBy (g : List T24) (u : ByteArray) (k : Nat) (m : ByteArray) : Prop := ∃ j, 1 ≤ j ∧ j ≤ k ∧ stepsTo g u j m
section
variable {g : List T24} {u m : ByteArray}
theorem firstAt_uniq {i j : Nat} (h : firstAt g u i m) (h' : firstAt g u j m) (hi : 1 ≤ i) (hj : 1 ≤ j) : i = j := by
  rcases Nat.lt_trichotomy i j with q | q | q
  · exact absurd h.1 (h'.2 i hi q)
  · exact q
  · exact absurd h'.1 (h.2 j hj q)
theorem firstAt_succ {k : Nat} : firstAt g u (k + 1) m ↔ (∃ e ∈ g, firstAt g u k e.1 ∧ e.2.1 = m) ∧ ¬ seenBy g u k m := by
  constructor
  · rintro ⟨⟨e, he, h1, h2⟩, hn⟩
    exact ⟨⟨e, he, ⟨h1, fun j a b q => hn (j + 1) (by omega) (by omega) ⟨e, he, q, h2⟩⟩, h2⟩, fun ⟨j, a, b, q⟩ => hn j a (by omega) q⟩
  · rintro ⟨⟨e, he, h1, h2⟩, hn⟩
    exact ⟨⟨e, he, h1.1, h2⟩, fun j a b q => hn ⟨j, a, by omega, q⟩⟩
theorem seenBy_succ {k : Nat} : seenBy g u (k + 1) m ↔ seenBy g u k m ∨ firstAt g u (k + 1) m := by
  constructor
  · rintro ⟨j, a, b, q⟩
    by_cases h : seenBy g u k m
    · exact .inl h
    · have : j = k + 1 := by
        rcases Nat.lt_or_ge j (k + 1) with z | z
        · exact absurd ⟨j, a, by omega, q⟩ h
        · omega
      subst this
      exact .inr ⟨q, fun i x y z => h ⟨i, x, by omega, z⟩⟩
  · rintro (⟨j, a, b, q⟩ | h)
    · exact ⟨j, a, by omega, q⟩
    · exact ⟨k + 1, by omega, by omega, h.1⟩
theorem seenBy_first : ∀ {k : Nat}, seenBy g u k m → ∃ i, 1 ≤ i ∧ firstAt g u i m
  | 0, ⟨j, a, b, _⟩ => absurd b (by omega)
  | k + 1, h => by
    rcases seenBy_succ.1 h with q | q
    · exact seenBy_first q
    · exact ⟨k + 1, by omega, q⟩
theorem firstAt_none {k : Nat} (h : ∀ m, ¬ firstAt g u k m) : ∀ d m, ¬ firstAt g u (k + d) m
  | 0, m => h m
  | d + 1, m => fun q => by
    obtain ⟨⟨e, _, h1, _⟩, _⟩ := firstAt_succ.1 (show firstAt g u (k + d + 1) m from q)
    exact firstAt_none h d _ h1
/-- the first step instead of the last -/
theorem stepsTo_first : ∀ {k : Nat} {m : ByteArray}, stepsTo g u (k + 1) m ↔ ∃ e ∈ g, e.1 = u ∧ stepsTo g e.2.1 k m
  | 0, m => by
    constructor
    · rintro ⟨e, he, h1, h2⟩; exact ⟨e, he, h1, h2.symm⟩
    · rintro ⟨e, he, h1, h2⟩; exact ⟨e, he, h1, h2.symm⟩
  | k + 1, m => by
    constructor
    · rintro ⟨e, he, h1, h2⟩
      obtain ⟨d, hd, a, b⟩ := stepsTo_first.1 h1
      exact ⟨d, hd, a, ⟨e, he, b, h2⟩⟩
    · rintro ⟨d, hd, a, ⟨e, he, b, h2⟩⟩
      exact ⟨e, he, stepsTo_first.2 ⟨d, hd, a, b⟩, h2⟩
theorem firstAt_first {k : Nat} (hk : 1 ≤ k) (h : firstAt g u (k + 1) m) : ∃ e ∈ g, e.1 = u ∧ firstAt g e.2.1 k m := by
  obtain ⟨e, he, a, b⟩ := stepsTo_first.1 h.1
  exact ⟨e, he, a, b, fun j x y z => h.2 (j + 1) (by omega) (by omega) (stepsTo_first.2 ⟨e, he, a, z⟩)⟩
theorem firstAt_one : firstAt g u 1 m ↔ ∃ e ∈ g, e.1 = u ∧ e.2.1 = m := by
  constructor
  · rintro ⟨⟨e, he, a, b⟩, _⟩; exact ⟨e, he, a, b⟩
  · rintro ⟨e, he, a, b⟩; exact ⟨⟨e, he, a, b⟩, fun j x y => by omega⟩
end
/-! ### a round: what a ring adds -/
section
open Classical
noncomputable def scan (v : ByteArray) : List T24 → List ByteArray → List ByteArray
  | [], _ => []
  | e :: r, s => if e.1 = v ∧ e.2.1 ∉ s then e.2.1 :: scan v r (s ++ [e.2.1]) else scan v r s
theorem scan_mem (v : ByteArray) : ∀ (l : List T24) (s : List ByteArray) (m : ByteArray), m ∈ scan v l s ↔ (∃ e ∈ l, e.1 = v ∧ e.2.1 = m) ∧ m ∉ s
  | [], s, m => by simp [scan]
  | e :: r, s, m => by
    unfold scan
    by_cases h : e.1 = v ∧ e.2.1 ∉ s
    · rw [if_pos h, List.mem_cons, scan_mem v r]
      constructor
      · rintro (rfl | ⟨⟨d, hd, h1, h2⟩, h3⟩)
        · exact ⟨⟨e, List.mem_cons_self, h.1, rfl⟩, h.2⟩
        · exact ⟨⟨d, List.mem_cons_of_mem _ hd, h1, h2⟩, fun q => h3 (List.mem_append_left _ q)⟩
      · rintro ⟨⟨d, hd, h1, h2⟩, h3⟩
        by_cases q : m = e.2.1
        · exact .inl q
        · rcases List.mem_cons.1 hd with rfl | hd
          · exact absurd h2.symm q
          · exact .inr ⟨⟨d, hd, h1, h2⟩, fun z => by
              rcases List.mem_append.1 z with z | z
              · exact h3 z
              · exact q (List.mem_singleton.1 z)⟩
    · rw [if_neg h, scan_mem v r]
      constructor
      · rintro ⟨⟨d, hd, h1, h2⟩, h3⟩
        exact ⟨⟨d, List.mem_cons_of_mem _ hd, h1, h2⟩, h3⟩
      · rintro ⟨⟨d, hd, h1, h2⟩, h3⟩
        rcases List.mem_cons.1 hd with rfl | hd
        · exact absurd ⟨h1, h2 ▸ h3⟩ h
        · exact ⟨⟨d, hd, h1, h2⟩, h3⟩
theorem scan_nodup (v : ByteArray) : ∀ (l : List T24) (s : List ByteArray), s.Nodup → (s ++ scan v l s).Nodup
  | [], s, h => by unfold scan; rw [List.append_nil]; exact h
  | e :: r, s, h => by
    unfold scan
    by_cases q : e.1 = v ∧ e.2.1 ∉ s
    · rw [if_pos q]
      have := scan_nodup v r (s ++ [e.2.1]) (List.nodup_append.2 ⟨h, by simp, fun a ha b hb z => by rw [List.mem_singleton.1 hb] at z; exact q.2 (z ▸ ha)⟩)
      rw [List.append_assoc] at this
      exact this
    · rw [if_neg q]; exact scan_nodup v r s h
noncomputable def scanR (g : List T24) : List ByteArray → List ByteArray → List ByteArray
  | [], _ => []
  | v :: r, s => scan v g s ++ scanR g r (s ++ scan v g s)
theorem scanR_mem (g : List T24) : ∀ (l s : List ByteArray) (m : ByteArray), m ∈ scanR g l s ↔ (∃ e ∈ g, e.1 ∈ l ∧ e.2.1 = m) ∧ m ∉ s
  | [], s, m => by simp [scanR]
  | v :: r, s, m => by
    unfold scanR
    rw [List.mem_append, scanR_mem g r, scan_mem]
    constructor
    · rintro (⟨⟨e, he, h1, h2⟩, h3⟩ | ⟨⟨e, he, h1, h2⟩, h3⟩)
      · exact ⟨⟨e, he, h1 ▸ List.mem_cons_self, h2⟩, h3⟩
      · exact ⟨⟨e, he, List.mem_cons_of_mem _ h1, h2⟩, fun q => h3 (List.mem_append_left _ q)⟩
    · rintro ⟨⟨e, he, h1, h2⟩, h3⟩
      by_cases q : ∃ e ∈ g, e.1 = v ∧ e.2.1 = m
      · exact .inl ⟨q, h3⟩
      · rcases List.mem_cons.1 h1 with h1 | h1
        · exact absurd ⟨e, he, h1, h2⟩ q
        · exact .inr ⟨⟨e, he, h1, h2⟩, fun z => by
            rcases List.mem_append.1 z with z | z
            · exact h3 z
            · exact q ((scan_mem v g s m).1 z).1⟩
theorem scanR_nodup (g : List T24) : ∀ (l s : List ByteArray), s.Nodup → (s ++ scanR g l s).Nodup
  | [], s, h => by unfold scanR; rw [List.append_nil]; exact h
  | v :: r, s, h => by
    unfold scanR
    have := scanR_nodup g r _ (scan_nodup v g s h)
    rw [List.append_assoc] at this
    exact this
theorem nodup_len {α : Type} : ∀ (l m : List α), l.Nodup → (∀ x ∈ l, x ∈ m) → l.length ≤ m.length
  | [], m, _, _ => Nat.zero_le _
  | a :: l, m, nd, hs => by
    have ha := hs a List.mem_cons_self
    obtain ⟨n1, n2⟩ := List.nodup_cons.1 nd
    have := nodup_len l (m.erase a) n2 (fun x hx => (List.mem_erase_of_ne (fun q : x = a => n1 (q ▸ hx))).2 (hs x (List.mem_cons_of_mem _ hx)))
    rw [List.length_erase_of_mem ha] at this
    have : 0 < m.length := List.length_pos_of_mem ha
    rw [List.length_cons]; omega
/-- what has been seen: once each, members all -/
structure Seen (g : List T24) (s : List ByteArray) : Prop where
  nd : s.Nodup
  sub : ∀ x ∈ s, ∃ e ∈ g, e.2.1 = x
theorem Seen.len {g : List T24} {s : List ByteArray} (h : Seen g s) : s.length ≤ g.length := by
  have := nodup_len s (g.map fun e => e.2.1) h.nd (fun x hx => by obtain ⟨e, he, rfl⟩ := h.sub x hx; exact List.mem_map_of_mem he)
  rwa [List.length_map] at this
theorem Seen.scan {g l : List T24} {s : List ByteArray} (h : Seen g s) (hl : ∀ e ∈ l, e ∈ g) (v : ByteArray) : Seen g (s ++ Go.Proofs.Ytacfnpnaeiagnab.PA.scan v l s) where
  nd := scan_nodup v l s h.nd
  sub := fun x hx => by
    rcases List.mem_append.1 hx with q | q
    · exact h.sub x q
    · obtain ⟨⟨e, he, _, z⟩, _⟩ := (scan_mem v l s x).1 q
      exact ⟨e, hl e he, z⟩
theorem Seen.scanR {g : List T24} {s : List ByteArray} (h : Seen g s) (l : List ByteArray) : Seen g (s ++ Go.Proofs.Ytacfnpnaeiagnab.PA.scanR g l s) where
  nd := scanR_nodup g l s h.nd
  sub := fun x hx => by
    rcases List.mem_append.1 hx with q | q
    · exact h.sub x q
    · obtain ⟨⟨e, he, _, z⟩, _⟩ := (scanR_mem g l s x).1 q
      exact ⟨e, he, z⟩
theorem toList_iff {a b : ByteArray} : a.toList = b.toList ↔ a = b := ⟨bytesEq_of_toList, fun h => by rw [h]⟩
theorem most16 {n : Nat} (h : n ≤ 1000000) : n ≤ most 16 := by unfold most; omega
theorem most24 {n : Nat} (h : n ≤ 1000000) : n ≤ most 24 := by unfold most; omega
/-! ### the law's rings -/
theorem l3Has_loop (l : List ByteArray) (x : ByteArray) (hl : l.length ≤ 1000000000) : ∀ (d i : Nat), l.length = i + d → Ev (fun K j => spec_l3Has.l6 K j x l (l.length : Int) (i : Int)) (decide (x ∈ l.drop i))
  | 0, i, h => by
    obtain rfl : i = l.length := by omega
    exact Ev.lp (fun K j => spec_l3Has.l6_eq K j x l _ _) (Ev.no (by omega) (Ev.some (by simp)))
  | d + 1, i, h => by
    refine Ev.lp (fun K j => spec_l3Has.l6_eq K j x l _ i) (Ev.yes (by omega) (Ev.yes (by omega) ?_))
    rw [rd_at _ _ _ (show i < l.length by omega), wrap_nat (by omega)]
    rw [List.drop_eq_getElem_cons (show i < l.length by omega)]
    refine Ev.ite (fun q => Ev.some ?_) fun q => ?_
    · rw [toList_iff] at q; simp [q]
    · rw [toList_iff] at q
      have : decide (x ∈ l[i] :: l.drop (i + 1)) = decide (x ∈ l.drop (i + 1)) := by rw [decide_eq_decide, List.mem_cons]; exact or_iff_right (fun z => q z.symm)
      rw [this]
      exact l3Has_loop l x hl d (i + 1) (by omega)
theorem l3Has_ev (l : List ByteArray) (x : ByteArray) (hl : l.length ≤ 1000000000) : Ev (fun K _ => spec_l3Has.f K l x) (decide (x ∈ l)) :=
  Ev.fn (fun k => spec_l3Has.f_eq k l x) (Ev.diag (l3Has_loop l x hl l.length 0 (by omega)))
section
variable {g : List T24} (hg : g.length ≤ 200)
include hg
theorem rings_scan (v : ByteArray) (ring : List ByteArray) (q : Int) (y0 : List (List ByteArray)) : ∀ (d i : Nat) (y1 y2 : List ByteArray), g.length = i + d → Seen g y1 → y2.length ≤ y1.length →
    ∀ r, Ev (fun K j => spec_l5Rings.l24 K j g ring (ring.length : Int) (wrap64 (q + 1)) y0 (y1 ++ scan v (g.drop i) y1) (y2 ++ scan v (g.drop i) y1)) r → Ev (fun K j => spec_l5Rings.l38 K j g v ring (ring.length : Int) q g (g.length : Int) (i : Int) y0 y1 y2) r
  | 0, i, y1, y2, h, hs, hy, r, hr => by
    obtain rfl : i = g.length := by omega
    rw [List.drop_length] at hr
    simp only [scan, List.append_nil] at hr
    exact Ev.lp (fun K j => spec_l5Rings.l38_eq K j g v ring _ q g _ _ y0 y1 y2) (Ev.no (by omega) hr)
  | d + 1, i, y1, y2, h, hs, hy, r, hr => by
    have hi : i < g.length := by omega
    refine Ev.lp (fun K j => spec_l5Rings.l38_eq K j g v ring _ q g _ i y0 y1 y2) (Ev.yes (by omega) (Ev.yes (by omega) ?_))
    rw [rd_at _ _ _ hi, wrap_nat (by omega)]
    have hl := hs.len
    have hd : g.drop i = g[i] :: g.drop (i + 1) := List.drop_eq_getElem_cons hi
    rw [hd] at hr
    unfold scan at hr
    refine Ev.ite (fun a => (l3Has_ev y1 _ (by omega)).bind (Ev.ite (fun b => ?_) fun b => ?_)) fun a => ?_
    · rw [if_neg (fun z => z.2 (of_decide_eq_true b))] at hr
      exact rings_scan v ring q y0 d (i + 1) y1 y2 (by omega) hs hy r hr
    · have b : g[i].2.1 ∉ y1 := fun z => b (decide_eq_true z)
      rw [toList_iff] at a
      rw [if_pos ⟨a, b⟩] at hr
      have hs' : Seen g (y1 ++ [g[i].2.1]) := ⟨List.nodup_append.2 ⟨hs.nd, by simp, fun x hx z hz w => by rw [List.mem_singleton.1 hz] at w; exact b (w ▸ hx)⟩, fun x hx => by
        rcases List.mem_append.1 hx with z | z
        · exact hs.sub x z
        · exact ⟨g[i], List.getElem_mem hi, (List.mem_singleton.1 z).symm⟩⟩
      refine Ev.yes (most16 (by simp; omega)) (Ev.yes (most16 (by simp; omega)) (rings_scan v ring q y0 d (i + 1) _ _ (by omega) hs' (by simp [app]; omega) r ?_))
      unfold app
      rw [List.append_assoc, List.append_assoc]
      exact hr
    · rw [toList_iff] at a
      rw [if_neg (fun z => a z.1)] at hr
      exact rings_scan v ring q y0 d (i + 1) y1 y2 (by omega) hs hy r hr
theorem rings_ring (ring : List ByteArray) (hR : ring.length ≤ 1000000000) (y0 : List (List ByteArray)) : ∀ (d q : Nat) (y1 y2 : List ByteArray), ring.length = q + d → Seen g y1 → y2.length ≤ y1.length →
    ∀ r, Ev (fun K j => spec_l5Rings.l24 K j g ring (ring.length : Int) (ring.length : Int) y0 (y1 ++ scanR g (ring.drop q) y1) (y2 ++ scanR g (ring.drop q) y1)) r → Ev (fun K j => spec_l5Rings.l24 K j g ring (ring.length : Int) (q : Int) y0 y1 y2) r
  | 0, q, y1, y2, h, hs, hy, r, hr => by
    obtain rfl : q = ring.length := by omega
    rw [List.drop_length] at hr
    simp only [scanR, List.append_nil] at hr
    exact hr
  | d + 1, q, y1, y2, h, hs, hy, r, hr => by
    have hi : q < ring.length := by omega
    refine Ev.lp (fun K j => spec_l5Rings.l24_eq K j g ring _ q y0 y1 y2) (Ev.yes (by omega) (Ev.yes (by omega) ?_))
    rw [rd_at _ _ _ hi]
    rw [List.drop_eq_getElem_cons hi] at hr
    unfold scanR at hr
    have := rings_scan hg ring[q] ring q y0 g.length 0 y1 y2 (by omega) hs hy r
    rw [List.drop_zero, wrap_nat (by omega)] at this
    refine this (rings_ring ring hR y0 d (q + 1) _ _ (by omega) (hs.scan (fun e he => he) _) (by simp; omega) r ?_)
    rw [List.append_assoc, List.append_assoc]
    exact hr
end
structure RingsOf (g : List T24) (u : ByteArray) (k : Nat) (rs : List (List ByteArray)) : Prop where
  at_ : ∀ i (h : i < rs.length) m, m ∈ rs[i] ↔ firstAt g u (k + i) m
  end_ : ∀ i, rs.length ≤ i → ∀ m, ¬ firstAt g u (k + i) m
  short : ∀ r ∈ rs, r.length ≤ 200
theorem rings_out {g : List T24} (hg : g.length ≤ 200) (u : ByteArray) : ∀ (n k : Nat) (ring y1 : List ByteArray) (y0 : List (List ByteArray)), g.length < n + y1.length → Seen g y1 → y0.length ≤ y1.length → ring.length ≤ 200 → (∀ m, m ∈ ring ↔ firstAt g u k m) → (∀ m, m ∈ y1 ↔ seenBy g u k m) →
    ∃ rs, Ev (fun K j => spec_l5Rings.l10 K j g ring y0 y1) (y0 ++ rs) ∧ RingsOf g u (k + 1) rs ∧ y0.length + rs.length ≤ 200
  | 0, k, ring, y1, y0, hn, hs, hy, hr, h1, h2 => by have := hs.len; omega
  | n + 1, k, ring, y1, y0, hn, hs, hy, hr, h1, h2 => by
    have hA : ∀ m, m ∈ scanR g ring y1 ↔ firstAt g u (k + 1) m := fun m => by
      rw [scanR_mem, firstAt_succ, h2]
      simp only [h1]
    have hs' := hs.scanR ring
    have hl := hs'.len
    rw [List.length_append] at hl
    by_cases hz : ring.length = 0
    · obtain rfl := List.eq_nil_of_length_eq_zero hz
      refine ⟨[], ?_, ⟨fun i h => absurd h (Nat.not_lt_zero _), fun i _ m => ?_, fun r hr => by cases hr⟩, by simp; have := hs.len; omega⟩
      · rw [List.append_nil]
        exact Ev.lp (fun K j => spec_l5Rings.l10_eq K j g [] y0 y1) (Ev.no (by simp) (Ev.now _))
      · have := firstAt_none (g := g) (u := u) (k := k) (fun m q => by have := (h1 m).2 q; cases this) (1 + i) m
        rwa [← Nat.add_assoc] at this
    · have into : ∀ r, Ev (fun K j => spec_l5Rings.l24 K j g ring (ring.length : Int) (ring.length : Int) y0 (y1 ++ scanR g ring y1) (scanR g ring y1)) r → Ev (fun K j => spec_l5Rings.l10 K j g ring y0 y1) r := fun r h => by
        refine Ev.lp (fun K j => spec_l5Rings.l10_eq K j g ring y0 y1) (Ev.yes (by omega) ?_)
        exact rings_ring hg ring (by omega) y0 ring.length 0 y1 [] (by omega) hs (Nat.zero_le _) r h
      by_cases ha : (scanR g ring y1).length = 0
      · have e := List.eq_nil_of_length_eq_zero ha
        have no : ∀ m, ¬ firstAt g u (k + 1) m := fun m q => by have := (hA m).2 q; rw [e] at this; cases this
        refine ⟨[], into _ ?_, ⟨fun i h => absurd h (Nat.not_lt_zero _), fun i _ m => firstAt_none no i m, fun r hr => by cases hr⟩, by simp; have := hs.len; omega⟩
        rw [e, List.append_nil, List.append_nil]
        refine Ev.lp (fun K j => spec_l5Rings.l24_eq K j g ring _ _ y0 y1 []) (Ev.no (by omega) (Ev.no (by simp) ?_))
        exact Ev.lp (fun K j => spec_l5Rings.l10_eq K j g [] y0 y1) (Ev.no (by simp) (Ev.now _))
      · obtain ⟨rs, e, hR, hL⟩ := rings_out hg u n (k + 1) (scanR g ring y1) (y1 ++ scanR g ring y1) (y0 ++ [scanR g ring y1]) (by rw [List.length_append]; omega) hs' (by simp; omega) (by omega) hA (fun m => by rw [List.mem_append, h2, seenBy_succ, hA])
        refine ⟨scanR g ring y1 :: rs, into _ ?_, ⟨fun i h m => ?_, fun i h m => ?_, fun r hr => ?_⟩, by simp at hL ⊢; omega⟩
        · refine Ev.lp (fun K j => spec_l5Rings.l24_eq K j g ring _ _ y0 _ _) (Ev.no (by omega) (Ev.yes (by omega) (Ev.yes (most24 (by simp; omega)) ?_)))
          rw [List.append_assoc] at e
          exact e
        · cases i with
          | zero => exact hA m
          | succ i =>
            have := hR.at_ i (by simpa using h) m
            rw [show k + 1 + 1 + i = k + 1 + (i + 1) by omega] at this
            simpa using this
        · cases i with
          | zero => simp at h
          | succ i =>
            have := hR.end_ i (by simpa using h) m
            rwa [show k + 1 + 1 + i = k + 1 + (i + 1) by omega] at this
        · rcases List.mem_cons.1 hr with rfl | hr
          · omega
          · exact hR.short r hr
theorem stepsTo_zero {g : List T24} {u m : ByteArray} : firstAt g u 0 m ↔ m = u := ⟨fun h => h.1, fun h => ⟨h, fun j a b => by omega⟩⟩
theorem seenBy_zero {g : List T24} {u m : ByteArray} : ¬ seenBy g u 0 m := fun ⟨j, a, b, _⟩ => by omega
theorem l5Rings_ev {g : List T24} (hg : g.length ≤ 200) (u : ByteArray) : ∃ rs, Ev (fun K _ => spec_l5Rings.f K g u) rs ∧ RingsOf g u 1 rs ∧ rs.length ≤ 200 := by
  obtain ⟨rs, e, h, hl⟩ := rings_out hg u (g.length + 1) 0 [u] [] [] (by simp) ⟨List.nodup_nil, fun x hx => by cases hx⟩ (Nat.le_refl _) (by simp) (fun m => by rw [stepsTo_zero]; simp) (fun m => by simp [seenBy_zero])
  exact ⟨rs, Ev.fn (fun k => spec_l5Rings.f_eq k g u) (Ev.diag e), h, by simpa using hl⟩
/-! ### the steps' map -/
def gv (M : List (ByteArray × Int)) (m : ByteArray) : Int := mgetA (α := ByteArray) (β := Int) (eqD .str) (0 : Int) M m
theorem mget_put {α β : Type} {eq : α → α → Bool} (hq : ∀ a b, eq a b = true ↔ a = b) (z k : β) (a m : α) : ∀ M : List (α × β), mgetA eq z (mputA eq M a k) m = if m = a then k else mgetA eq z M m
  | [] => by simp only [mputA, mgetA, hq]
  | p :: M => by
    have ih := mget_put hq z k a m M
    unfold mputA
    by_cases h : eq a p.1 = true
    · rw [if_pos h]
      have h := (hq _ _).1 h
      unfold mgetA
      simp only [hq]
      by_cases q : m = p.1
      · rw [if_pos q, if_pos (q.trans h.symm)]
      · rw [if_neg q, if_neg (fun z => q (z.trans h)), if_neg q]
    · rw [if_neg h]
      have h : ¬ a = p.1 := fun z => h ((hq _ _).2 z)
      unfold mgetA
      simp only [hq]
      by_cases q : m = p.1
      · rw [if_pos q, if_neg (fun z => h (z.symm.trans q)), if_pos q]
      · rw [if_neg q, if_neg q]
        exact ih
theorem gv_put (k : Int) (a m : ByteArray) (M : List (ByteArray × Int)) : gv (mputA (α := ByteArray) (β := Int) (eqD .str) M a k) m = if m = a then k else gv M m := by
  by_cases h : m = a
  · rw [if_pos h]; exact (mget_put (fun a b => eqD_iff .str a b rfl) 0 k a m M).trans (if_pos h)
  · rw [if_neg h]; exact (mget_put (fun a b => eqD_iff .str a b rfl) 0 k a m M).trans (if_neg h)
def puts (k : Int) (M : List (ByteArray × Int)) : List ByteArray → List (ByteArray × Int)
  | [] => M
  | a :: A => puts k (mputA (α := ByteArray) (β := Int) (eqD .str) M a k) A
theorem gv_puts (k : Int) (m : ByteArray) : ∀ (A : List ByteArray) (M : List (ByteArray × Int)), gv (puts k M A) m = if m ∈ A then k else gv M m
  | [], M => by simp [puts]
  | a :: A, M => by
    unfold puts
    rw [gv_puts k m A, gv_put]
    by_cases h : m ∈ A
    · rw [if_pos h, if_pos (List.mem_cons_of_mem _ h)]
    · rw [if_neg h]
      by_cases q : m = a
      · rw [if_pos q, if_pos (q ▸ List.mem_cons_self)]
      · rw [if_neg q, if_neg (fun z => by rcases List.mem_cons.1 z with z | z <;> contradiction)]
/-- each key once; nothing is at 0 -/
def MapOk (M : List (ByteArray × Int)) : Prop := (M.map fun p => p.1).Nodup ∧ ∀ p ∈ M, p.2 ≠ 0
theorem mput_keys {α β : Type} {eq : α → α → Bool} (hq : ∀ a b, eq a b = true ↔ a = b) (a : α) (k : β) : ∀ (M : List (α × β)) (x : α), x ∈ (mputA eq M a k).map (fun p => p.1) ↔ x ∈ M.map (fun p => p.1) ∨ x = a
  | [], x => by simp [mputA]
  | p :: M, x => by
    unfold mputA
    by_cases h : eq a p.1 = true
    · rw [if_pos h]
      have h := (hq _ _).1 h
      simp only [List.map_cons, List.mem_cons, h]
      constructor
      · rintro (z | z)
        · exact .inr z
        · exact .inl (.inr z)
      · rintro ((z | z) | z)
        · exact .inl z
        · exact .inr z
        · exact .inl z
    · rw [if_neg h]
      simp only [List.map_cons, List.mem_cons, mput_keys hq a k M x, or_assoc]
theorem mput_nodup {α β : Type} {eq : α → α → Bool} (hq : ∀ a b, eq a b = true ↔ a = b) (a : α) (k : β) : ∀ (M : List (α × β)), (M.map fun p => p.1).Nodup → ((mputA eq M a k).map fun p => p.1).Nodup
  | [], _ => by simp [mputA]
  | p :: M, h => by
    unfold mputA
    by_cases hh : eq a p.1 = true
    · rw [if_pos hh]; exact h
    · rw [if_neg hh]
      simp only [List.map_cons, List.nodup_cons] at h ⊢
      refine ⟨fun z => ?_, mput_nodup hq a k M h.2⟩
      rcases (mput_keys hq a k M p.1).1 z with z | z
      · exact h.1 z
      · exact hh ((hq _ _).2 z.symm)
theorem mput_vals {α β : Type} {eq : α → α → Bool} (a : α) (k : β) : ∀ (M : List (α × β)) (q : α × β), q ∈ mputA eq M a k → q ∈ M ∨ q.2 = k
  | [], q, h => by simp [mputA] at h; exact .inr (by rw [h])
  | p :: M, q, h => by
    unfold mputA at h
    split at h
    · rcases List.mem_cons.1 h with rfl | h
      · exact .inr rfl
      · exact .inl (List.mem_cons_of_mem _ h)
    · rcases List.mem_cons.1 h with rfl | h
      · exact .inl List.mem_cons_self
      · rcases mput_vals a k M q h with z | z
        · exact .inl (List.mem_cons_of_mem _ z)
        · exact .inr z
theorem MapOk.puts {k : Int} (hk : k ≠ 0) : ∀ (A : List ByteArray) {M : List (ByteArray × Int)}, MapOk M → MapOk (puts k M A)
  | [], M, h => h
  | a :: A, M, h => MapOk.puts hk A ⟨mput_nodup (fun a b => eqD_iff .str a b rfl) a k M h.1, fun p hp => by
      rcases mput_vals a k M p hp with z | z
      · exact h.2 p z
      · rw [z]; exact hk⟩
theorem gv_of {M : List (ByteArray × Int)} (h : (M.map fun p => p.1).Nodup) : ∀ p ∈ M, gv M p.1 = p.2 := by
  induction M with
  | nil => intro p hp; cases hp
  | cons q M ih =>
    intro p hp
    simp only [List.map_cons, List.nodup_cons] at h
    show (if eqD .str p.1 q.1 = true then q.2 else gv M p.1) = p.2
    rcases List.mem_cons.1 hp with rfl | hp
    · exact if_pos ((eqD_iff .str p.1 p.1 rfl).2 rfl)
    · exact (if_neg (fun z => h.1 ((eqD_iff .str p.1 q.1 rfl).1 z ▸ List.mem_map_of_mem (f := fun p : ByteArray × Int => p.1) hp))).trans (ih h.2 p hp)
theorem gv_in : ∀ {M : List (ByteArray × Int)} {m : ByteArray}, gv M m ≠ 0 → (m, gv M m) ∈ M
  | [], m, h => absurd rfl h
  | q :: M, m, h => by
    have e : gv (q :: M) m = if eqD .str m q.1 = true then q.2 else gv M m := rfl
    by_cases z : eqD .str m q.1 = true
    · rw [show gv (q :: M) m = q.2 from e.trans (if_pos z)]
      have : m = q.1 := (eqD_iff .str m q.1 rfl).1 z
      rw [this]
      exact List.mem_cons_self
    · rw [show gv (q :: M) m = gv M m from e.trans (if_neg z)] at h ⊢
      exact List.mem_cons_of_mem _ (gv_in h)
theorem puts_app (k : Int) : ∀ (A B : List ByteArray) (M : List (ByteArray × Int)), puts k M (A ++ B) = puts k (puts k M A) B
  | [], B, M => rfl
  | a :: A, B, M => puts_app k A B _
section
variable {g : List T24} (hg : g.length ≤ 200)
include hg
theorem from_scan (v : ByteArray) (ring : List ByteArray) (q k : Int) (hk : k ≠ 0) : ∀ (d i : Nat) (M : List (ByteArray × Int)) (s y1 : List ByteArray), g.length = i + d → Seen g s → y1.length ≤ s.length → (∀ m, gv M m = 0 ↔ m ∉ s) →
    ∀ r, Ev (fun K j => impl_yfrom_m.l25 K j g k (ring.length : Int) (wrap64 (q + 1)) (puts k M (scan v (g.drop i) s)) (y1 ++ scan v (g.drop i) s) ring) r → Ev (fun K j => impl_yfrom_m.l39 K j g k v (ring.length : Int) q g (g.length : Int) (i : Int) M y1 ring) r
  | 0, i, M, s, y1, h, hs, hy, hM, r, hr => by
    obtain rfl : i = g.length := by omega
    rw [List.drop_length] at hr
    simp only [scan, List.append_nil, puts] at hr
    exact Ev.lp (fun K j => impl_yfrom_m.l39_eq K j g k v _ q g _ _ M y1 ring) (Ev.no (by omega) hr)
  | d + 1, i, M, s, y1, h, hs, hy, hM, r, hr => by
    have hi : i < g.length := by omega
    refine Ev.lp (fun K j => impl_yfrom_m.l39_eq K j g k v _ q g _ i M y1 ring) (Ev.yes (by omega) (Ev.yes (by omega) ?_))
    rw [rd_at _ _ _ hi, wrap_nat (by omega)]
    have hl := hs.len
    have hd : g.drop i = g[i] :: g.drop (i + 1) := List.drop_eq_getElem_cons hi
    rw [hd] at hr
    unfold scan at hr
    refine Ev.ite (fun a => Ev.ite (fun b => Ev.slet ?_) fun b => ?_) fun a => ?_
    · have b : g[i].2.1 ∉ s := (hM _).1 b
      rw [toList_iff] at a
      rw [if_pos ⟨a, b⟩] at hr
      have hs' : Seen g (s ++ [g[i].2.1]) := ⟨List.nodup_append.2 ⟨hs.nd, by simp, fun x hx z hz w => by rw [List.mem_singleton.1 hz] at w; exact b (w ▸ hx)⟩, fun x hx => by
        rcases List.mem_append.1 hx with z | z
        · exact hs.sub x z
        · exact ⟨g[i], List.getElem_mem hi, (List.mem_singleton.1 z).symm⟩⟩
      refine Ev.yes (most16 (by simp; omega)) (from_scan v ring q k hk d (i + 1) _ (s ++ [g[i].2.1]) _ (by omega) hs' (by simp [app]; omega) (fun m => ?_) r ?_)
      · rw [gv_put]
        by_cases z : m = g[i].2.1
        · rw [if_pos z]; simp [z, hk]
        · rw [if_neg z, hM]; simp [z]
      · unfold app
        rw [List.append_assoc]
        exact hr
    · have b : ¬ g[i].2.1 ∉ s := fun z => b ((hM _).2 z)
      rw [if_neg (fun z => b z.2)] at hr
      exact from_scan v ring q k hk d (i + 1) M s y1 (by omega) hs hy hM r hr
    · rw [toList_iff] at a
      rw [if_neg (fun z => a z.1)] at hr
      exact from_scan v ring q k hk d (i + 1) M s y1 (by omega) hs hy hM r hr
theorem from_ring (ring : List ByteArray) (hR : ring.length ≤ 1000000000) (k : Int) (hk : k ≠ 0) : ∀ (d q : Nat) (M : List (ByteArray × Int)) (s y1 : List ByteArray), ring.length = q + d → Seen g s → y1.length ≤ s.length → (∀ m, gv M m = 0 ↔ m ∉ s) →
    ∀ r, Ev (fun K j => impl_yfrom_m.l10 K j g (wrap64 (k + 1)) (puts k M (scanR g (ring.drop q) s)) (y1 ++ scanR g (ring.drop q) s)) r → Ev (fun K j => impl_yfrom_m.l25 K j g k (ring.length : Int) (q : Int) M y1 ring) r
  | 0, q, M, s, y1, h, hs, hy, hM, r, hr => by
    obtain rfl : q = ring.length := by omega
    rw [List.drop_length] at hr
    simp only [scanR, List.append_nil, puts] at hr
    exact Ev.lp (fun K j => impl_yfrom_m.l25_eq K j g k _ _ M y1 ring) (Ev.no (by omega) hr)
  | d + 1, q, M, s, y1, h, hs, hy, hM, r, hr => by
    have hi : q < ring.length := by omega
    refine Ev.lp (fun K j => impl_yfrom_m.l25_eq K j g k _ q M y1 ring) (Ev.yes (by omega) (Ev.yes (by omega) ?_))
    rw [rd_at _ _ _ hi]
    rw [List.drop_eq_getElem_cons hi] at hr
    unfold scanR at hr
    have := from_scan hg ring[q] ring q k hk g.length 0 M s y1 (by omega) hs hy hM r
    rw [List.drop_zero, wrap_nat (by omega)] at this
    refine this (from_ring ring hR k hk d (q + 1) _ (s ++ scan ring[q] g s) _ (by omega) (hs.scan (fun e he => he) _) (by simp; omega) (fun m => ?_) r ?_)
    · rw [gv_puts, List.mem_append, not_or]
      by_cases z : m ∈ scan ring[q] g s
      · rw [if_pos z]; simp [z, hk]
      · rw [if_neg z, hM]; simp [z]
    · rw [List.append_assoc, ← puts_app]
      exact hr
theorem from_out (u : ByteArray) : ∀ (n k : Nat) (ring s : List ByteArray) (M : List (ByteArray × Int)), g.length < n + s.length → k ≤ s.length → Seen g s → ring.length ≤ 200 → (∀ m, m ∈ ring ↔ firstAt g u k m) → (∀ m, m ∈ s ↔ seenBy g u k m) → (∀ m, gv M m = 0 ↔ m ∉ s) →
    (∀ m i, 1 ≤ i → i ≤ k → firstAt g u i m → gv M m = i) → MapOk M → ∃ M', MapOk M' ∧ Ev (fun K j => impl_yfrom_m.l10 K j g ((k + 1 : Nat) : Int) M ring) (M', ()) ∧ (∀ m, gv M' m ≠ 0 → ∃ i, 1 ≤ i ∧ firstAt g u i m) ∧ (∀ m, gv M' m = 0 → ∀ i, 1 ≤ i → ¬ firstAt g u i m) ∧ (∀ m i, 1 ≤ i → firstAt g u i m → gv M' m = i)
  | 0, k, ring, s, M, hn, hk, hs, hr, h1, h2, hM, hG, _ => by have := hs.len; omega
  | n + 1, k, ring, s, M, hn, hk, hs, hr, h1, h2, hM, hG, hK => by
    have hA : ∀ m, m ∈ scanR g ring s ↔ firstAt g u (k + 1) m := fun m => by
      rw [scanR_mem, firstAt_succ, h2]
      simp only [h1]
    have hs' := hs.scanR ring
    have hl := hs'.len
    rw [List.length_append] at hl
    by_cases hz : ring.length = 0
    · obtain rfl := List.eq_nil_of_length_eq_zero hz
      have no := firstAt_none (g := g) (u := u) (k := k) (fun m q => by have := (h1 m).2 q; cases this)
      refine ⟨M, hK, Ev.lp (fun K j => impl_yfrom_m.l10_eq K j g _ M []) (Ev.no (by simp) (Ev.now _)), fun m h => seenBy_first ((h2 m).1 (Classical.not_not.1 fun q => h ((hM m).2 q))), fun m h i hi q => ?_, fun m i hi q => ?_⟩
      · have h := (hM m).1 h
        rw [h2] at h
        rcases Nat.lt_or_ge i (k + 1) with z | z
        · exact h ⟨i, hi, by omega, q.1⟩
        · exact no (i - k) m (by rw [show k + (i - k) = i by omega]; exact q)
      · rcases Nat.lt_or_ge i (k + 1) with z | z
        · exact hG m i hi (by omega) q
        · exact absurd (by rw [show k + (i - k) = i by omega]; exact q) (no (i - k) m)
    · have into : ∀ r, Ev (fun K j => impl_yfrom_m.l10 K j g ((k + 1 + 1 : Nat) : Int) (puts ((k + 1 : Nat) : Int) M (scanR g ring s)) (scanR g ring s)) r → Ev (fun K j => impl_yfrom_m.l10 K j g ((k + 1 : Nat) : Int) M ring) r := fun r h => by
        refine Ev.lp (fun K j => impl_yfrom_m.l10_eq K j g _ M ring) (Ev.yes (by omega) ?_)
        refine from_ring hg ring (by omega) ((k + 1 : Nat) : Int) (by omega) ring.length 0 M s [] (by omega) hs (Nat.zero_le _) hM r ?_
        rw [wrap_nat (by omega), List.drop_zero, List.nil_append]
        exact h
      have hM' : ∀ m, gv (puts ((k + 1 : Nat) : Int) M (scanR g ring s)) m = 0 ↔ m ∉ s ++ scanR g ring s := fun m => by
        rw [gv_puts, List.mem_append, not_or]
        by_cases z : m ∈ scanR g ring s
        · rw [if_pos z]; simp [z]; omega
        · rw [if_neg z, hM]; simp [z]
      have hG' : ∀ m i, 1 ≤ i → i ≤ k + 1 → firstAt g u i m → gv (puts ((k + 1 : Nat) : Int) M (scanR g ring s)) m = i := fun m i a b q => by
        rw [gv_puts]
        by_cases z : m ∈ scanR g ring s
        · rw [if_pos z, firstAt_uniq q ((hA m).1 z) a (by omega)]
        · rw [if_neg z]
          refine hG m i a ?_ q
          rcases Nat.lt_or_ge i (k + 1) with w | w
          · omega
          · obtain rfl : i = k + 1 := by omega
            exact absurd ((hA m).2 q) z
      have hS : ∀ m, m ∈ s ++ scanR g ring s ↔ seenBy g u (k + 1) m := fun m => by rw [List.mem_append, h2, seenBy_succ, hA]
      by_cases ha : (scanR g ring s).length = 0
      · have e := List.eq_nil_of_length_eq_zero ha
        have no := firstAt_none (g := g) (u := u) (k := k + 1) (fun m q => by have := (hA m).2 q; rw [e] at this; cases this)
        refine ⟨puts ((k + 1 : Nat) : Int) M (scanR g ring s), hK.puts (by omega) _, into _ ?_, fun m h => seenBy_first ((hS m).1 (Classical.not_not.1 fun q => h ((hM' m).2 q))), fun m h i hi q => ?_, fun m i hi q => ?_⟩
        · generalize hq : puts ((k + 1 : Nat) : Int) M (scanR g ring s) = M2
          rw [e]
          exact Ev.lp (fun K j => impl_yfrom_m.l10_eq K j g _ _ []) (Ev.no (by simp) (Ev.now _))
        · have h := (hM' m).1 h
          rw [hS] at h
          rcases Nat.lt_or_ge i (k + 2) with z | z
          · exact h ⟨i, hi, by omega, q.1⟩
          · exact no (i - (k + 1)) m (by rw [show k + 1 + (i - (k + 1)) = i by omega]; exact q)
        · rcases Nat.lt_or_ge i (k + 2) with z | z
          · exact hG' m i hi (by omega) q
          · exact absurd (by rw [show k + 1 + (i - (k + 1)) = i by omega]; exact q) (no (i - (k + 1)) m)
      · obtain ⟨M', hK', e, hR⟩ := from_out u n (k + 1) (scanR g ring s) (s ++ scanR g ring s) _ (by rw [List.length_append]; omega) (by rw [List.length_append]; omega) hs' (by omega) hA hS hM' hG' (hK.puts (by omega) _)
        exact ⟨M', hK', into _ e, hR⟩
end
theorem yfrom_ev {g : List T24} (hg : g.length ≤ 200) (u : ByteArray) : ∃ M, MapOk M ∧ Ev (fun K _ => impl_yfrom_m.f K g u) (M, ()) ∧ ∀ m, (gv M m = 0 ∧ ∀ i, 1 ≤ i → ¬ firstAt g u i m) ∨ ∃ i : Nat, 1 ≤ i ∧ gv M m = i ∧ firstAt g u i m := by
  obtain ⟨M, hK, e, h0, h1, h2⟩ := from_out hg u (g.length + 1) 0 [u] [] [] (by simp) (by simp) ⟨List.nodup_nil, fun x hx => by cases hx⟩ (by simp) (fun m => by rw [stepsTo_zero]; simp) (fun m => by simp [seenBy_zero]) (fun m => by simp [gv, mgetA]) (fun m i a b => by omega) ⟨List.nodup_nil, fun p hp => by cases hp⟩
  refine ⟨M, hK, Ev.fn (fun k => impl_yfrom_m.f_eq k g u) (Ev.diag e), fun m => ?_⟩
  by_cases h : gv M m = 0
  · exact .inl ⟨h, h1 m h⟩
  · obtain ⟨i, a, b⟩ := h0 m h
    exact .inr ⟨i, a, h2 m i a b, b⟩
theorem gv_iff {g : List T24} {u m : ByteArray} {M : List (ByteArray × Int)} (h : (gv M m = 0 ∧ ∀ i, 1 ≤ i → ¬ firstAt g u i m) ∨ ∃ i : Nat, 1 ≤ i ∧ gv M m = i ∧ firstAt g u i m) {i : Nat} (hi : 1 ≤ i) : gv M m = (i : Int) ↔ firstAt g u i m := by
  rcases h with ⟨h, q⟩ | ⟨j, a, h, q⟩
  · exact ⟨fun z => by omega, fun z => absurd z (q i hi)⟩
  · exact ⟨fun z => by obtain rfl : i = j := by omega
                       exact q, fun z => by rw [h, firstAt_uniq q z a hi]⟩
end

/-! ### the order of pairs of texts -/
theorem cmpL_trans : ∀ (a b c : List Int), cmpL a b < 0 → cmpL b c < 0 → cmpL a c < 0
  | [], [], _, h, _ => by simp [cmpL] at h
  | [], _ :: _, [], _, h => by simp [cmpL] at h
  | [], _ :: _, _ :: _, _, _ => by simp [cmpL]
  | _ :: _, [], _, h, _ => by simp [cmpL] at h
  | _ :: _, _ :: _, [], _, h => by simp [cmpL] at h
  | x :: a, y :: b, z :: c, h1, h2 => by
    unfold cmpL at h1 h2 ⊢
    by_cases e1 : x = y
    · subst e1
      rw [if_pos rfl] at h1
      by_cases e2 : x = z
      · rw [if_pos e2] at h2 ⊢
        exact cmpL_trans a b c h1 h2
      · rw [if_neg e2] at h2 ⊢
        exact h2
    · rw [if_neg e1] at h1
      by_cases e2 : y = z
      · subst e2
        rw [if_neg e1]; exact h1
      · rw [if_neg e2] at h2
        have l1 : x < y := by
          by_cases q : x < y
          · exact q
          · rw [if_neg q] at h1; omega
        have l2 : y < z := by
          by_cases q : y < z
          · exact q
          · rw [if_neg q] at h2; omega
        rw [if_neg (by omega), if_pos (by omega)]; omega
theorem cmpT_trans {a b c : ByteArray} (h1 : cmpT a b < 0) (h2 : cmpT b c < 0) : cmpT a c < 0 := cmpL_trans _ _ _ h1 h2
theorem cmpT_anti (a b : ByteArray) : cmpT b a = - cmpT a b := cmpL_anti _ _
theorem cmpT_self (a : ByteArray) : cmpT a a = 0 := cmpT_zero.2 rfl
def kc (a b : ByteArray × ByteArray) : Int := if cmpT a.1 b.1 = 0 then cmpT a.2 b.2 else cmpT a.1 b.1
theorem kc_zero {a b : ByteArray × ByteArray} : kc a b = 0 ↔ a = b := by
  unfold kc
  constructor
  · intro h
    by_cases q : cmpT a.1 b.1 = 0
    · rw [if_pos q] at h
      exact Prod.ext (cmpT_zero.1 q) (cmpT_zero.1 h)
    · rw [if_neg q] at h; exact absurd h q
  · rintro rfl
    rw [if_pos (cmpT_self _), cmpT_self]
theorem kc_anti (a b : ByteArray × ByteArray) : kc b a = - kc a b := by
  unfold kc
  rw [cmpT_anti a.1 b.1, cmpT_anti a.2 b.2]
  by_cases q : cmpT a.1 b.1 = 0
  · rw [if_pos q, if_pos (by omega)]
  · rw [if_neg q, if_neg (by omega)]
theorem kc_trans {a b c : ByteArray × ByteArray} (h1 : kc a b < 0) (h2 : kc b c < 0) : kc a c < 0 := by
  unfold kc at *
  by_cases q1 : cmpT a.1 b.1 = 0
  · rw [if_pos q1] at h1
    have e1 := cmpT_zero.1 q1
    rw [e1]
    by_cases q2 : cmpT b.1 c.1 = 0
    · rw [if_pos q2] at h2 ⊢; exact cmpT_trans h1 h2
    · rw [if_neg q2] at h2 ⊢; exact h2
  · rw [if_neg q1] at h1
    by_cases q2 : cmpT b.1 c.1 = 0
    · have e2 := cmpT_zero.1 q2
      rw [← e2, if_neg q1]; exact h1
    · rw [if_neg q2] at h2
      have := cmpT_trans h1 h2
      rw [if_neg (by omega)]; exact this
theorem kc_swo {α : Type} (f : α → ByteArray × ByteArray) : Go.Sort.SWO (Go.Proofs.ltOf fun x y => kc (f x) (f y)) := by
  refine ⟨fun x => ?_, fun x y z => ?_, fun x y z => ?_⟩ <;> unfold Go.Proofs.ltOf
  · have : kc (f x) (f x) = 0 := kc_zero.2 rfl
    show decide (kc (f x) (f x) < 0) = false
    rw [this]; rfl
  · intro h1 h2
    simp only [decide_eq_true_eq] at *
    exact kc_trans h1 h2
  · intro h1 h2
    simp only [decide_eq_false_iff_not] at *
    intro h3
    by_cases q : kc (f x) (f y) = 0
    · rw [kc_zero.1 q] at h3; exact h2 h3
    · have : kc (f y) (f x) < 0 := by rw [kc_anti]; omega
      exact h2 (kc_trans this h3)
theorem nests_next (x0 : List T24) (hx : x0.length ≤ 200) : ∀ (rest : List T24) (i : Nat), spec_GoodNests.l14.v x0 rest i = true → x0.drop i = rest → ∀ j, i ≤ j → 0 < j → (h : j < x0.length) → kc (x0[j - 1].1, x0[j - 1].2.1) (x0[j].1, x0[j].2.1) < 0
  | [], i, _, hd, j, h1, h2, h3 => by have := drop_none hd; omega
  | e :: rest, i, hv, hd, j, h1, h2, h3 => by
    obtain ⟨hi, hd2, hr⟩ := drop_more hd
    have he : x0[i] = e := by have := hr Z24; rwa [rd_at _ _ _ hi] at this
    unfold spec_GoodNests.l14.v at hv
    have hv : (if spec_l5Group.v e.1 = true then (if spec_GoodName.v e.2.1 = true then (if (i : Int) > 0 then (if spec_l5CmpNest.v (rd Z24 x0 (wrap64 ((i : Int) - 1))) e ≥ 0 then false else spec_GoodNests.l14.v x0 rest (i + 1)) else spec_GoodNests.l14.v x0 rest (i + 1)) else false) else false) = true := hv
    by_cases a : spec_l5Group.v e.1 = true
    · rw [if_pos a] at hv
      by_cases b : spec_GoodName.v e.2.1 = true
      · rw [if_pos b] at hv
        by_cases hj : j = i
        · subst hj
          rw [if_pos (by omega)] at hv
          rw [show wrap64 ((j : Int) - 1) = ((j - 1 : Nat) : Int) from cast_pred h2 (by omega), rd_at _ _ _ (show j - 1 < x0.length by omega)] at hv
          by_cases hc : spec_l5CmpNest.v x0[j - 1] e ≥ 0
          · rw [if_pos hc] at hv; cases hv
          · rw [he]
            have : spec_l5CmpNest.v x0[j - 1] e = kc (x0[j - 1].1, x0[j - 1].2.1) (e.1, e.2.1) := by
              unfold spec_l5CmpNest.v kc
              rfl
            rw [← this]; omega
        · refine nests_next x0 hx rest (i + 1) ?_ hd2 j (by omega) h2 h3
          by_cases q : (i : Int) > 0
          · rw [if_pos q] at hv
            by_cases hc : spec_l5CmpNest.v (rd Z24 x0 (wrap64 ((i : Int) - 1))) e ≥ 0
            · rw [if_pos hc] at hv; cases hv
            · rw [if_neg hc] at hv; exact hv
          · rw [if_neg q] at hv; exact hv
      · rw [if_neg b] at hv; cases hv
    · rw [if_neg a] at hv; cases hv
theorem nests_sorted {g : List T24} (h : spec_GoodNests.v g = true) : ∀ (d i : Nat) (hj : i + d + 1 < g.length), kc (g[i].1, g[i].2.1) (g[i + d + 1].1, g[i + d + 1].2.1) < 0 := by
  have hl := nests_len h
  have h' : spec_GoodNests.l14.v g g 0 = true := by
    unfold spec_GoodNests.v at h
    split at h
    · cases h
    · exact h
  intro d
  induction d with
  | zero => intro i hj; exact nests_next g hl g 0 h' rfl (i + 1) (Nat.zero_le _) (by omega) hj
  | succ d ih =>
    intro i hj
    exact kc_trans (ih i (by omega)) (nests_next g hl g 0 h' rfl (i + d + 1 + 1) (Nat.zero_le _) (by omega) hj)
/-- a group's rows lie together -/
theorem nests_groups {g : List T24} (h : spec_GoodNests.v g = true) {i j : Nat} (hij : i < j) (hj : j < g.length) (hne : g[j - 1].1 ≠ g[j].1) : g[i].1 ≠ g[j].1 := by
  intro e
  obtain ⟨d, rfl⟩ : ∃ d, j = i + d + 1 := ⟨j - i - 1, by omega⟩
  cases d with
  | zero => exact hne e
  | succ d =>
    have h1 := nests_sorted h d i (by omega)
    have h2 := nests_sorted h 0 (i + d + 1) (by omega)
    have e2 : i + (d + 1) + 1 - 1 = i + d + 1 := by omega
    simp only [e2] at hne
    unfold kc at h1 h2
    simp only [Nat.add_zero] at h2
    dsimp only at h1
    have n2 : cmpT g[i + d + 1].1 g[i + d + 1 + 1].1 ≠ 0 := fun q => hne (cmpT_zero.1 q)
    rw [if_neg n2] at h2
    have e3 : cmpT g[i].1 g[i + d + 1].1 = - cmpT g[i + d + 1].1 g[i + d + 1 + 1].1 := by
      rw [cmpT_anti, show g[i].1 = g[i + d + 1 + 1].1 from e]
    rw [if_neg (by omega)] at h1
    omega

/-! ### the library's sort -/
theorem ev_all {α : Type} {P : Nat → α → Prop} : ∀ {l : List α}, (∀ x ∈ l, ∃ n, ∀ K, n ≤ K → P K x) → ∃ n, ∀ x ∈ l, ∀ K, n ≤ K → P K x
  | [], _ => ⟨0, fun x hx => by cases hx⟩
  | a :: l, h => by
    obtain ⟨n, hn⟩ := h a List.mem_cons_self
    obtain ⟨m, hm⟩ := ev_all (l := l) fun x hx => h x (List.mem_cons_of_mem _ hx)
    refine ⟨max n m, fun x hx K hK => ?_⟩
    rcases List.mem_cons.1 hx with rfl | hx
    · exact hn K (by omega)
    · exact hm x hx K (by omega)
theorem swo_val {α : Type} {cf : α → α → Int} (hO : Go.Sort.SWO (Go.Proofs.ltOf cf)) (p : α → Prop) : Go.Sort.SWO (Go.Proofs.ltOf fun x y : {x // p x} => cf x.1 y.1) :=
  ⟨fun x => hO.irrefl x.1, fun x y z => hO.trans x.1 y.1 z.1, fun x y z => hO.ntrans x.1 y.1 z.1⟩
theorem Ev.sort {α : Type} {c : Nat → α → α → Option Int} {cf : α → α → Int} {l : List α} (h : ∀ x ∈ l, ∀ y ∈ l, Ev (fun K _ => c K x y) (cf x y)) (hO : Go.Sort.SWO (Go.Proofs.ltOf cf)) :
    ∃ l2, Ev (fun K _ => sortF (c K) l) l2 ∧ l2.Perm l ∧ l2.Pairwise (fun a b => ¬ cf b a < 0) := by
  have hO' := swo_val hO (fun x => x ∈ l)
  obtain ⟨n, hn⟩ := ev_all (l := l) (P := fun K x => ∀ y ∈ l, c K x y = some (cf x y)) fun x hx => by
    obtain ⟨n, hn⟩ := ev_all (l := l) (P := fun K y => c K x y = some (cf x y)) fun y hy => by
      obtain ⟨n, hn⟩ := h x hx y hy
      exact ⟨n, fun K hK => hn K n hK (Nat.le_refl _)⟩
    exact ⟨n, fun K hK y hy => hn y hy K hK⟩
  have hS : ∀ K, n ≤ K → SortsBy (c K) l (fun x y => cf x.1 y.1) := fun K hK => ⟨fun x y => hn x.1 x.2 K hK y.1 y.2, hO'⟩
  have hsome : ∀ K, n ≤ K → ∃ r, sortF (c K) l = some r := fun K hK => by
    unfold sortF
    rw [dif_pos ⟨_, hS K hK⟩]
    split
    · exact ⟨_, rfl⟩
    · exact ⟨_, rfl⟩
  by_cases hl : l = []
  · refine ⟨[], ⟨n, fun K j hK _ => ?_⟩, by rw [hl], List.Pairwise.nil⟩
    obtain ⟨r, hr⟩ := hsome K hK
    rcases sortF_some hr with ⟨_, rfl⟩ | ⟨hl2, _⟩
    · exact hr
    · exact absurd hl hl2
  · letI : Inhabited {x // x ∈ l} := ⟨⟨l.head hl, List.head_mem hl⟩⟩
    refine ⟨(Go.Sort.pdq (Go.Proofs.ltOf fun x y : {x // x ∈ l} => cf x.1 y.1) l.attach.toArray 0 l.attach.toArray.size (Go.Lib.bitLen l.attach.toArray.size) true true).toList.map Subtype.val, ⟨n, fun K j hK _ => ?_⟩, ?_⟩
    · obtain ⟨r, hr⟩ := hsome K hK
      rcases sortF_some hr with ⟨hl2, _⟩ | ⟨_, cf', hS', rfl⟩
      · exact absurd hl2 hl
      · have : cf' = fun x y => cf x.1 y.1 := by
          funext x y
          exact Option.some.inj ((hS'.1 x y).symm.trans ((hS K hK).1 x y))
        subst this
        exact hr
    · obtain ⟨⟨h1, _, h3⟩, h4⟩ := Go.Sort.pdq_sorts (Go.Proofs.ltOf fun x y : {x // x ∈ l} => cf x.1 y.1) hO' l.attach.toArray 0 l.attach.toArray.size (Go.Lib.bitLen l.attach.toArray.size) true true (Nat.zero_le _) (Nat.le_refl _) (Or.inl rfl)
      generalize Go.Sort.pdq (Go.Proofs.ltOf fun x y : {x // x ∈ l} => cf x.1 y.1) l.attach.toArray 0 l.attach.toArray.size (Go.Lib.bitLen l.attach.toArray.size) true true = d at h1 h3 h4 ⊢
      constructor
      · rw [← h1] at h3
        rw [Array.extract_size] at h3
        rw [h1, Array.extract_size] at h3
        have := h3.map Subtype.val
        simpa using this
      · rw [List.pairwise_map]
        rw [List.pairwise_iff_getElem]
        intro i j hi hj hij
        have h5 := h4 i j (Nat.zero_le _) hij (by rw [← h1]; simpa using hj)
        rw [getElem!_pos d j (by simpa using hj), getElem!_pos d i (by simpa using hi)] at h5
        unfold Go.Proofs.ltOf at h5
        simpa using h5
/-- two rows in strict order that hold the same are the same -/
theorem eq_of_strict {α : Type} {lt : α → α → Prop} (hi : ∀ a, ¬ lt a a) (ha : ∀ a b, lt a b → ¬ lt b a) : ∀ {l m : List α}, l.Pairwise lt → m.Pairwise lt → (∀ x, x ∈ l ↔ x ∈ m) → l = m
  | [], [], _, _, _ => rfl
  | [], b :: m, _, _, h => by have := (h b).2 List.mem_cons_self; cases this
  | a :: l, [], _, _, h => by have := (h a).1 List.mem_cons_self; cases this
  | a :: l, b :: m, h1, h2, h => by
    rw [List.pairwise_cons] at h1 h2
    have e : a = b := by
      rcases List.mem_cons.1 ((h a).1 List.mem_cons_self) with q | q
      · exact q
      · rcases List.mem_cons.1 ((h b).2 List.mem_cons_self) with z | z
        · exact z.symm
        · exact absurd (h1.1 b z) (ha _ _ (h2.1 a q))
    subst e
    rw [eq_of_strict hi ha h1.2 h2.2 fun x => ⟨fun q => ?_, fun q => ?_⟩]
    · rcases List.mem_cons.1 ((h x).1 (List.mem_cons_of_mem _ q)) with z | z
      · exact absurd (h1.1 x q) (z ▸ hi _)
      · exact z
    · rcases List.mem_cons.1 ((h x).2 (List.mem_cons_of_mem _ q)) with z | z
      · exact absurd (h2.1 x q) (z ▸ hi _)
      · exact z
theorem Ev.allK {α : Type} {n : Nat} {F : Nat → Nat → Int → Option α} {r : α} (h0 : 0 < n) (h : ∀ i : Nat, i < n → Ev (fun K j => F K j (i : Int)) r) : Ev (fun K j => Go.Den.allK (n : Int) (F K j)) r := by
  have : ∀ m, m ≤ n → ∃ q, ∀ K j, q ≤ K → q ≤ j → ∀ i : Nat, i < m → F K j (i : Int) = some r := by
    intro m
    induction m with
    | zero => exact fun _ => ⟨0, fun K j _ _ i hi => absurd hi (Nat.not_lt_zero _)⟩
    | succ m ih =>
      intro hm
      obtain ⟨q, hq⟩ := ih (by omega)
      obtain ⟨p, hp⟩ := h m (by omega)
      refine ⟨max p q, fun K j h1 h2 i hi => ?_⟩
      by_cases e : i = m
      · subst e; exact hp K j (by omega) (by omega)
      · exact hq K j (by omega) (by omega) i (by omega)
  obtain ⟨q, hq⟩ := this n (Nat.le_refl _)
  refine ⟨q, fun K j h1 h2 => ?_⟩
  have ex : ∃ r : α, 0 < (n : Int) ∧ ∀ i : Int, 0 ≤ i → i < (n : Int) → F K j i = some r := ⟨r, by omega, fun i hi1 hi2 => by
    have := hq K j h1 h2 i.toNat (by omega)
    rwa [Int.toNat_of_nonneg hi1] at this⟩
  show Go.Den.allK (n : Int) (F K j) = some r
  unfold Go.Den.allK
  rw [dif_pos ex]
  have := ex.choose_spec.2 0 (by omega) (by omega)
  have h3 := hq K j h1 h2 0 h0
  exact this.symm.trans h3

/-! ### the law's own sort -/
theorem sorted_shift (l : List ByteArray) (n : Int) (i : Int) (e : ByteArray) (s : List ByteArray) (hs : s.length ≤ 900000) (k : Nat) (hk : k ≤ s.length) : ∀ (d : Nat) (y : List ByteArray), y.length = s.length + 1 → k + d ≤ s.length → (∀ i, i < k + d → y[i]? = s[i]?) → (∀ i, k + d < i → y[i]? = s[i - 1]?) →
    ∀ r, Ev (fun K j => spec_l5Sorted.l8 K j l n (wrap64 (i + 1)) (s.take k ++ e :: s.drop k)) r → Ev (fun K j => spec_l5Sorted.l44 K j e (k : Int) ((k + d : Nat) : Int) l n i y) r
  | 0, y, hy, hd, h1, h2, r, hr => by
    refine Ev.lp (fun K j => spec_l5Sorted.l44_eq K j e k _ l n i y) (Ev.no (by omega) (Ev.yes (by omega) (Ev.slet ?_)))
    have : put y (k : Int) e = s.take k ++ e :: s.drop k := by
      rw [put_nat]
      apply List.ext_getElem?
      intro j
      rcases Nat.lt_trichotomy j k with q | q | q
      · rw [List.getElem?_set_ne (by omega), h1 j (by omega), List.getElem?_append_left (by rw [List.length_take]; omega), List.getElem?_take, if_pos q]
      · subst q
        rw [List.getElem?_set_self (by omega), List.getElem?_append_right (by rw [List.length_take]; omega), List.length_take, show j - min j s.length = 0 by omega]
        rfl
      · rw [List.getElem?_set_ne (by omega), h2 j (by omega), List.getElem?_append_right (by rw [List.length_take]; omega), List.length_take, show j - min k s.length = j - 1 - k + 1 by omega, List.getElem?_cons_succ, List.getElem?_drop, show k + (j - 1 - k) = j - 1 by omega]
    rw [this]; exact hr
  | d + 1, y, hy, hd, h1, h2, r, hr => by
    refine Ev.lp (fun K j => spec_l5Sorted.l44_eq K j e k _ l n i y) (Ev.yes (by omega) ?_)
    rw [show wrap64 (((k + (d + 1) : Nat) : Int) - 1) = ((k + d : Nat) : Int) by rw [cast_pred (by omega) (by omega)]; rfl]
    refine Ev.yes (by omega) (Ev.yes (by omega) (Ev.slet ?_))
    have hlt : k + d < y.length := by omega
    refine sorted_shift l n i e s hs k hk d _ (by rw [put_length]; exact hy) (by omega) (fun j hj => ?_) (fun j hj => ?_) r hr
    · rw [put_nat, List.getElem?_set_ne (by omega)]; exact h1 j (by omega)
    · by_cases q : j = k + (d + 1)
      · subst q
        rw [put_nat, List.getElem?_set_self (by omega), rd_at _ _ _ hlt, ← List.getElem?_eq_getElem hlt, h1 _ (by omega)]
        rfl
      · rw [put_nat, List.getElem?_set_ne (by omega)]; exact h2 j (by omega)
def lt1 (a b : ByteArray) : Prop := cmpT a b < 0
theorem sorted_put {s : List ByteArray} (hs : s.Pairwise lt1) {k : Nat} (hk : k ≤ s.length) {e : ByteArray} (h1 : ∀ (i : Nat) (h : i < s.length), k ≤ i → cmpT s[i] e > 0) (h2 : ∀ (h : 0 < k), cmpT (s[k - 1]'(by omega)) e < 0) : (s.take k ++ e :: s.drop k).Pairwise lt1 := by
  have hs2 := hs
  rw [← List.take_append_drop k s, List.pairwise_append] at hs2
  obtain ⟨p1, p2, p3⟩ := hs2
  have q1 : ∀ x ∈ s.take k, lt1 x e := fun x hx => by
    obtain ⟨i, hi, rfl⟩ := List.getElem_of_mem hx
    rw [List.length_take] at hi
    rw [List.getElem_take]
    have hk0 : 0 < k := by omega
    by_cases q : i = k - 1
    · subst q; exact h2 hk0
    · exact cmpT_trans (List.pairwise_iff_getElem.1 hs i (k - 1) (by omega) (by omega) (by omega)) (h2 hk0)
  have q2 : ∀ x ∈ s.drop k, lt1 e x := fun x hx => by
    obtain ⟨i, hi, rfl⟩ := List.getElem_of_mem hx
    rw [List.length_drop] at hi
    rw [List.getElem_drop]
    have := h1 (k + i) (by omega) (by omega)
    unfold lt1
    rw [cmpT_anti]; omega
  rw [List.pairwise_append]
  refine ⟨p1, List.pairwise_cons.2 ⟨q2, p2⟩, fun a ha b hb => ?_⟩
  rcases List.mem_cons.1 hb with rfl | hb
  · exact q1 a ha
  · exact p3 a ha b hb
theorem sorted_find (l : List ByteArray) (n i : Int) (e : ByteArray) (he : e.size ≤ 140737488351232) (s : List ByteArray) (hs : s.length ≤ 900000) (hf : ∀ x ∈ s, x.size ≤ 140737488351232) (hp : s.Pairwise lt1) : ∀ (k : Nat), k ≤ s.length → (∀ (i : Nat) (h : i < s.length), k ≤ i → cmpT s[i] e > 0) →
    ∃ s', s'.Pairwise lt1 ∧ (∀ x, x ∈ s' ↔ x ∈ s ∨ x = e) ∧ s'.length ≤ s.length + 1 ∧ ∀ r, Ev (fun K j => spec_l5Sorted.l8 K j l n (wrap64 (i + 1)) s') r → Ev (fun K j => spec_l5Sorted.l23 K j e (k : Int) l n i s) r := by
  have ins : ∀ (k : Nat) (hk : k ≤ s.length), (∀ (i : Nat) (h : i < s.length), k ≤ i → cmpT s[i] e > 0) → (∀ (h : 0 < k), cmpT (s[k - 1]'(by omega)) e < 0) →
      ∃ s', s'.Pairwise lt1 ∧ (∀ x, x ∈ s' ↔ x ∈ s ∨ x = e) ∧ s'.length ≤ s.length + 1 ∧ ∀ r, Ev (fun K j => spec_l5Sorted.l8 K j l n (wrap64 (i + 1)) s') r → Ev (fun K j => spec_l5Sorted.l44 K j e (k : Int) (wrap64 (((app s [e]).length : Int) - 1)) l n i (app s [e])) r := fun k hk h1 h2 => by
    refine ⟨s.take k ++ e :: s.drop k, sorted_put hp hk h1 h2, fun x => ?_, by simp; omega, fun r hr => ?_⟩
    · conv => rhs; rw [← List.take_append_drop k s]
      simp only [List.mem_append, List.mem_cons]
      constructor
      · rintro (z | z | z)
        · exact .inl (.inl z)
        · exact .inr z
        · exact .inl (.inr z)
      · rintro ((z | z) | z)
        · exact .inl z
        · exact .inr (.inr z)
        · exact .inr (.inl z)
    · have hl : (app s [e]).length = s.length + 1 := by simp [app]
      have := sorted_shift l n i e s hs k hk (s.length - k) (app s [e]) hl (by omega) (fun j hj => by unfold app; rw [List.getElem?_append_left (by omega)]) (fun j hj => by rw [List.getElem?_eq_none (by omega), List.getElem?_eq_none (by omega)]) r hr
      rw [hl, show wrap64 (((s.length + 1 : Nat) : Int) - 1) = ((k + (s.length - k) : Nat) : Int) by rw [cast_pred (by omega) (by omega)]; congr 1; omega]
      exact this
  intro k
  induction k with
  | zero =>
    intro hk h1
    obtain ⟨s', a, b, c, d⟩ := ins 0 hk h1 (fun h => absurd h (by omega))
    exact ⟨s', a, b, c, fun r hr => Ev.lp (fun K j => spec_l5Sorted.l23_eq K j e _ l n i s) (Ev.no (by omega) (Ev.no (by omega) (Ev.yes (most16 (by simp; omega)) (d r hr))))⟩
  | succ k ih =>
    intro hk h1
    have hlt : k < s.length := by omega
    have hc := spec_l1CmpText_ev s[k] e (hf _ (List.getElem_mem hlt)) he
    have pre : wrap64 (((k + 1 : Nat) : Int) - 1) = (k : Int) := by rw [cast_pred (by omega) (by omega)]; rfl
    by_cases q : cmpT s[k] e > 0
    · obtain ⟨s', a, b, c, d⟩ := ih (by omega) (fun i hi hki => by
        by_cases z : i = k
        · subst z; exact q
        · exact h1 i hi (by omega))
      refine ⟨s', a, b, c, fun r hr => Ev.lp (fun K j => spec_l5Sorted.l23_eq K j e _ l n i s) (Ev.yes (by omega) ?_)⟩
      rw [pre, rd_at _ _ _ hlt]
      exact Ev.yes (by omega) (hc.bind (Ev.yes q (d r hr)))
    · by_cases z : s[k] = e
      · refine ⟨s, hp, fun x => ⟨.inl, fun h => h.elim id fun h => h ▸ z ▸ List.getElem_mem hlt⟩, by omega, fun r hr => Ev.lp (fun K j => spec_l5Sorted.l23_eq K j e _ l n i s) (Ev.yes (by omega) ?_)⟩
        rw [pre, rd_at _ _ _ hlt]
        exact Ev.yes (by omega) (hc.bind (Ev.no q (Ev.yes (by omega) (Ev.yes (by omega) (Ev.yes (toList_iff.2 z) hr)))))
      · obtain ⟨s', a, b, c, d⟩ := ins (k + 1) hk h1 (fun _ => by
          have : cmpT s[k] e ≠ 0 := fun w => z (cmpT_zero.1 w)
          show cmpT s[k] e < 0
          omega)
        refine ⟨s', a, b, c, fun r hr => Ev.lp (fun K j => spec_l5Sorted.l23_eq K j e _ l n i s) (Ev.yes (by omega) ?_)⟩
        rw [pre, rd_at _ _ _ hlt]
        exact Ev.yes (by omega) (hc.bind (Ev.no q (Ev.yes (by omega) (Ev.yes (by omega) (Ev.no (fun w => z (toList_iff.1 w)) (Ev.yes (most16 (by simp; omega)) (d r hr)))))))
theorem sorted_loop (l : List ByteArray) (hl : l.length ≤ 500000) (hf : ∀ x ∈ l, x.size ≤ 140737488351232) : ∀ (d i : Nat) (s : List ByteArray), l.length = i + d → s.length ≤ i → (∀ x ∈ s, x.size ≤ 140737488351232) → s.Pairwise lt1 →
    ∃ s', Ev (fun K j => spec_l5Sorted.l8 K j l (l.length : Int) (i : Int) s) s' ∧ s'.Pairwise lt1 ∧ (∀ x, x ∈ s' ↔ x ∈ s ∨ x ∈ l.drop i)
  | 0, i, s, h, hs, hsf, hp => by
    obtain rfl : i = l.length := by omega
    exact ⟨s, Ev.lp (fun K j => spec_l5Sorted.l8_eq K j l _ _ s) (Ev.no (by omega) (Ev.now _)), hp, fun x => by rw [List.drop_length]; simp⟩
  | d + 1, i, s, h, hs, hsf, hp => by
    have hi : i < l.length := by omega
    have he := hf _ (List.getElem_mem hi)
    obtain ⟨s1, p1, m1, l1, e1⟩ := sorted_find l (l.length : Int) (i : Int) l[i] he s (by omega) hsf hp s.length (Nat.le_refl _) (fun j hj hk => by omega)
    obtain ⟨s2, e2, p2, m2⟩ := sorted_loop l hl hf d (i + 1) s1 (by omega) (by omega) (fun x hx => by
      rcases (m1 x).1 hx with z | z
      · exact hsf x z
      · rw [z]; exact he) p1
    refine ⟨s2, Ev.lp (fun K j => spec_l5Sorted.l8_eq K j l _ i s) (Ev.yes (by omega) (Ev.yes (by omega) ?_)), p2, fun x => ?_⟩
    · rw [rd_at _ _ _ hi]
      refine e1 s2 ?_
      rw [wrap_nat (by omega)]; exact e2
    · rw [m2, m1, List.drop_eq_getElem_cons hi, List.mem_cons, or_assoc]
theorem l5Sorted_ev (l : List ByteArray) (hl : l.length ≤ 500000) (hf : ∀ x ∈ l, x.size ≤ 140737488351232) : ∃ s, Ev (fun K _ => spec_l5Sorted.f K l) s ∧ s.Pairwise lt1 ∧ ∀ x, x ∈ s ↔ x ∈ l := by
  obtain ⟨s, e, p, m⟩ := sorted_loop l hl hf l.length 0 [] (by omega) (by simp) (fun x hx => by cases hx) List.Pairwise.nil
  exact ⟨s, Ev.fn (fun k => spec_l5Sorted.f_eq k l) (Ev.diag e), p, fun x => by rw [m]; simp⟩
theorem lt1_irrefl (a : ByteArray) : ¬ lt1 a a := by unfold lt1; rw [cmpT_self]; omega
theorem lt1_asymm (a b : ByteArray) (h : lt1 a b) : ¬ lt1 b a := by unfold lt1 at *; rw [cmpT_anti]; omega
theorem sorted_nodup {l : List ByteArray} (h : l.Pairwise lt1) : l.Nodup := List.Pairwise.imp (fun {a b} (q : lt1 a b) (e : a = b) => lt1_irrefl a (by rw [← e] at q; exact q)) h

def impl_yreach_1.v (a0 : T68) (a1 : T68) : Int :=
  (let t0 := cmp_Compare_string.v a0.1 a1.1; (let t1 := cmp_Compare_string.v a0.2.1 a1.2.1; (cmp_Or_int.v [t0, t1])))
theorem impl_yreach_1.v_ev (a0 : T68) (a1 : T68) (f_a0 : fitSh S68 a0) (f_a1 : fitSh S68 a1) : EvF (.int .i64) (fun K _ => impl_yreach_1.f K a0 a1) (impl_yreach_1.v a0 a1) := by
  unfold impl_yreach_1.v
  exact EvF.fn (fun k => impl_yreach_1.f_eq k a0 a1) (EvF.bind (cmp_Compare_string.v_ev _ _ (f_a0.1) (f_a1.1)) fun f_t0 => (EvF.bind (cmp_Compare_string.v_ev _ _ (f_a0.2.1) (f_a1.2.1)) fun f_t1 => (EvF.bind (cmp_Or_int.v_ev _ (fit_lst (Nat.le_of_ble_eq_true rfl) (fit_cons (f_t0) (fit_cons (f_t1) (fun _ hx => by cases hx))))) fun f_t2 => (EvF.now (f_t2)))))

/-! ### who reaches whom -/
theorem erase_perm {α : Type} : ∀ (l : List α) (k : Nat) (h : k < l.length), (l[k] :: l.eraseIdx k).Perm l
  | [], k, h => absurd h (Nat.not_lt_zero _)
  | a :: l, 0, h => List.Perm.refl _
  | a :: l, k + 1, h => (List.Perm.swap _ _ _).trans ((erase_perm l k (by simpa using h)).cons a)
theorem cmpReach (a b : T68) : impl_yreach_1.v a b = kc (a.1, a.2.1) (b.1, b.2.1) := by
  unfold impl_yreach_1.v kc
  simp only [compare_string, or2]
def rkey (e : T68) : ByteArray × ByteArray := (e.1, e.2.1)
def lt2 (a b : T68) : Prop := kc (rkey a) (rkey b) < 0
theorem lt2_irrefl (a : T68) : ¬ lt2 a a := by
  unfold lt2
  rw [kc_zero.2 rfl]; omega
theorem lt2_asymm (a b : T68) (h : lt2 a b) : ¬ lt2 b a := by
  unfold lt2 at *
  rw [kc_anti]; omega
def Steps (g : List T24) (e : T68) : Prop := ∃ k : Nat, 1 ≤ k ∧ firstAt g e.1 k e.2.1 ∧ e.2.2.1 = k
theorem steps_same {g : List T24} {a b : T68} (ha : Steps g a) (hb : Steps g b) (h : rkey a = rkey b) : a = b := by
  obtain ⟨i, i1, i2, i3⟩ := ha
  obtain ⟨j, j1, j2, j3⟩ := hb
  obtain ⟨u, m, x, _⟩ := a
  obtain ⟨u', m', x', _⟩ := b
  simp only [rkey, Prod.mk.injEq] at h
  obtain ⟨rfl, rfl⟩ := h
  simp only at i2 i3 j2 j3
  have := firstAt_uniq i2 j2 i1 j1
  rw [i3, j3, this]
theorem firstAt_member {g : List T24} {u m : ByteArray} {k : Nat} (hk : 1 ≤ k) (h : firstAt g u k m) : ∃ e ∈ g, e.2.1 = m := by
  obtain ⟨k, rfl⟩ : ∃ q, k = q + 1 := ⟨k - 1, by omega⟩
  obtain ⟨e, he, _, h2⟩ := h.1
  exact ⟨e, he, h2⟩
open Classical in
noncomputable def kOf (g : List T24) (u m : ByteArray) : Nat := if h : ∃ k, 1 ≤ k ∧ firstAt g u k m then Classical.choose h else 0
theorem kOf_spec {g : List T24} {u m : ByteArray} (h : ∃ k, 1 ≤ k ∧ firstAt g u k m) : 1 ≤ kOf g u m ∧ firstAt g u (kOf g u m) m := by
  unfold kOf
  rw [dif_pos h]
  exact Classical.choose_spec h
noncomputable def rows (g : List T24) (u : ByteArray) (l : List ByteArray) : List T68 := l.map fun m => (u, m, (kOf g u m : Int), ())
section
open Classical
variable {g : List T24} (hg : g.length ≤ 200)
theorem most40 {n : Nat} (h : n ≤ 1000000) : n ≤ most 40 := by unfold most; omega
theorem reach_rings (u m : ByteArray) (rs : List (List ByteArray)) (hR : RingsOf g u 1 rs) (hrl : rs.length ≤ 200) (k : Nat) (hk : 1 ≤ k) (hf : firstAt g u k m) (x15 : List ByteArray) (x16 x17 : Int) (x35 : List ByteArray) (x36 x37 : Int) (y0 : List T68) (hy : y0.length ≤ 900000) : ∀ (d j : Nat), rs.length = j + d →
    ((k ≤ j → ∀ r, Ev (fun K i => spec_l5Reach.l43 K i g u rs x15 x16 x17 x35 x36 (wrap64 (x37 + 1)) (y0 ++ [(u, m, (k : Int), ())])) r → Ev (fun K i => spec_l5Reach.l57 K i g u rs m x15 x16 x17 x35 x36 x37 rs (rs.length : Int) (j : Int) (y0 ++ [(u, m, (k : Int), ())])) r) ∧
      (j < k → ∀ r, Ev (fun K i => spec_l5Reach.l43 K i g u rs x15 x16 x17 x35 x36 (wrap64 (x37 + 1)) (y0 ++ [(u, m, (k : Int), ())])) r → Ev (fun K i => spec_l5Reach.l57 K i g u rs m x15 x16 x17 x35 x36 x37 rs (rs.length : Int) (j : Int) y0) r))
  | 0, j, h => by
    obtain rfl : j = rs.length := by omega
    refine ⟨fun _ r hr => Ev.lp (fun K i => spec_l5Reach.l57_eq K i g u rs m x15 x16 x17 x35 x36 x37 rs _ _ _) (Ev.no (by omega) hr), fun hj => ?_⟩
    have := hR.end_ (k - 1) (by omega) m
    rw [show 1 + (k - 1) = k by omega] at this
    exact absurd hf this
  | d + 1, j, h => by
    have hi : j < rs.length := by omega
    obtain ⟨ih1, ih2⟩ := reach_rings u m rs hR hrl k hk hf x15 x16 x17 x35 x36 x37 y0 hy d (j + 1) (by omega)
    have here := hR.at_ j hi m
    rw [Nat.add_comm] at here
    have hs := l3Has_ev rs[j] m (by have := hR.short _ (List.getElem_mem hi); omega)
    constructor
    · intro hkj r hr
      refine Ev.lp (fun K i => spec_l5Reach.l57_eq K i g u rs m x15 x16 x17 x35 x36 x37 rs _ _ _) (Ev.yes (by omega) (Ev.yes (by omega) ?_))
      rw [rd_at _ _ _ hi, wrap_nat (by omega)]
      exact hs.bind (Ev.no (fun z => by have := firstAt_uniq hf (here.1 (of_decide_eq_true z)) hk (by omega); omega) (ih1 (by omega) r hr))
    · intro hjk r hr
      refine Ev.lp (fun K i => spec_l5Reach.l57_eq K i g u rs m x15 x16 x17 x35 x36 x37 rs _ _ _) (Ev.yes (by omega) (Ev.yes (by omega) ?_))
      rw [rd_at _ _ _ hi, wrap_nat (by omega)]
      by_cases q : k = j + 1
      · subst q
        exact hs.bind (Ev.yes (decide_eq_true (here.2 hf)) (Ev.yes (most40 (by simp; omega)) (ih1 (Nat.le_refl _) r hr)))
      · exact hs.bind (Ev.no (fun z => q (firstAt_uniq hf (here.1 (of_decide_eq_true z)) hk (by omega))) (ih2 (by omega) r hr))
theorem reach_members (u : ByteArray) (rs : List (List ByteArray)) (hR : RingsOf g u 1 rs) (hrl : rs.length ≤ 200) (x15 : List ByteArray) (x16 x17 : Int) (s : List ByteArray) (hsl : s.length ≤ 200) (hs : ∀ m ∈ s, ∃ k, 1 ≤ k ∧ firstAt g u k m) : ∀ (d q : Nat) (y0 : List T68), s.length = q + d → y0.length + d ≤ 900000 →
    ∀ r, Ev (fun K i => spec_l5Reach.l8 K i g x15 x16 (wrap64 (x17 + 1)) (y0 ++ rows g u (s.drop q))) r → Ev (fun K i => spec_l5Reach.l43 K i g u rs x15 x16 x17 s (s.length : Int) (q : Int) y0) r
  | 0, q, y0, h, hy, r, hr => by
    obtain rfl : q = s.length := by omega
    rw [List.drop_length] at hr
    simp only [rows, List.map_nil, List.append_nil] at hr
    exact Ev.lp (fun K i => spec_l5Reach.l43_eq K i g u rs x15 x16 x17 s _ _ y0) (Ev.no (by omega) hr)
  | d + 1, q, y0, h, hy, r, hr => by
    have hi : q < s.length := by omega
    obtain ⟨k1, k2⟩ := kOf_spec (hs _ (List.getElem_mem hi))
    refine Ev.lp (fun K i => spec_l5Reach.l43_eq K i g u rs x15 x16 x17 s _ q y0) (Ev.yes (by omega) (Ev.yes (by omega) ?_))
    rw [rd_at _ _ _ hi]
    refine (reach_rings u s[q] rs hR hrl _ k1 k2 x15 x16 x17 s (s.length : Int) (q : Int) y0 (by omega) rs.length 0 (by omega)).2 (by omega) r ?_
    rw [wrap_nat (by omega)]
    refine reach_members u rs hR hrl x15 x16 x17 s hsl hs d (q + 1) _ (by omega) (by simp; omega) r ?_
    rw [List.drop_eq_getElem_cons hi] at hr
    rw [List.append_assoc]
    exact hr
theorem reach_all (u : ByteArray) (rs : List (List ByteArray)) (hR : RingsOf g u 1 rs) (hrl : rs.length ≤ 200) (x15 : List ByteArray) (x16 x17 : Int) (y0 : List T68) : ∀ (d j : Nat) (y1 : List ByteArray), rs.length = j + d → y1.length ≤ 200 * j →
    ∀ r, Ev (fun K i => (spec_l5Sorted.f K (y1 ++ (rs.drop j).flatten)).bind fun t0 => (spec_l5Reach.l43 K i g u rs x15 x16 x17 t0 (t0.length : Int) 0 y0)) r → Ev (fun K i => spec_l5Reach.l27 K i g u rs x15 x16 x17 rs (rs.length : Int) (j : Int) y0 y1) r
  | 0, j, y1, h, hy, r, hr => by
    obtain rfl : j = rs.length := by omega
    rw [List.drop_length, List.flatten_nil, List.append_nil] at hr
    exact Ev.lp (fun K i => spec_l5Reach.l27_eq K i g u rs x15 x16 x17 rs _ _ y0 y1) (Ev.no (by omega) hr)
  | d + 1, j, y1, h, hy, r, hr => by
    have hi : j < rs.length := by omega
    have hsh := hR.short _ (List.getElem_mem hi)
    refine Ev.lp (fun K i => spec_l5Reach.l27_eq K i g u rs x15 x16 x17 rs _ j y0 y1) (Ev.yes (by omega) (Ev.yes (by omega) ?_))
    rw [rd_at _ _ _ hi, wrap_nat (by omega)]
    refine Ev.yes (most16 (by omega)) (reach_all u rs hR hrl x15 x16 x17 y0 d (j + 1) _ (by omega) (by unfold app; rw [List.length_append]; omega) r ?_)
    rw [List.drop_eq_getElem_cons hi, List.flatten_cons] at hr
    unfold app
    rw [List.append_assoc]; exact hr
theorem flatten_len {α : Type} {n : Nat} : ∀ (l : List (List α)), (∀ x ∈ l, x.length ≤ n) → l.flatten.length ≤ l.length * n
  | [], _ => by simp
  | a :: l, h => by
    have h1 := h a List.mem_cons_self
    have h2 := flatten_len l fun x hx => h x (List.mem_cons_of_mem _ hx)
    rw [List.flatten_cons, List.length_append, List.length_cons, Nat.add_mul, Nat.one_mul]
    omega
theorem rings_mem {u m : ByteArray} {rs : List (List ByteArray)} (hR : RingsOf g u 1 rs) : m ∈ rs.flatten ↔ ∃ k, 1 ≤ k ∧ firstAt g u k m := by
  rw [List.mem_flatten]
  constructor
  · rintro ⟨l, hl, hm⟩
    obtain ⟨i, hi, rfl⟩ := List.getElem_of_mem hl
    exact ⟨1 + i, by omega, (hR.at_ i hi m).1 hm⟩
  · rintro ⟨k, hk, hf⟩
    rcases Nat.lt_or_ge (k - 1) rs.length with q | q
    · exact ⟨rs[k - 1], List.getElem_mem q, (hR.at_ (k - 1) q m).2 (by rw [show 1 + (k - 1) = k by omega]; exact hf)⟩
    · have := hR.end_ (k - 1) q m
      rw [show 1 + (k - 1) = k by omega] at this
      exact absurd hf this
theorem rows_mem {u : ByteArray} {s : List ByteArray} (hs : ∀ m, m ∈ s ↔ ∃ k, 1 ≤ k ∧ firstAt g u k m) (e : T68) : e ∈ rows g u s ↔ e.1 = u ∧ Steps g e := by
  unfold rows
  rw [List.mem_map]
  constructor
  · rintro ⟨m, hm, rfl⟩
    obtain ⟨k1, k2⟩ := kOf_spec ((hs m).1 hm)
    exact ⟨rfl, _, k1, k2, rfl⟩
  · rintro ⟨rfl, k, k1, k2, k3⟩
    refine ⟨e.2.1, (hs _).2 ⟨k, k1, k2⟩, ?_⟩
    obtain ⟨h1, h2⟩ := kOf_spec ⟨k, k1, k2⟩
    rw [firstAt_uniq h2 k2 h1 k1, ← k3]
theorem rows_sorted {u : ByteArray} {s : List ByteArray} (hs : s.Pairwise lt1) : (rows g u s).Pairwise lt2 := by
  unfold rows
  rw [List.pairwise_map]
  refine List.Pairwise.imp (fun {a b} (h : lt1 a b) => ?_) hs
  show kc (u, a) (u, b) < 0
  unfold kc
  rw [if_pos (cmpT_self u)]
  exact h
include hg
/-- one group's rows -/
theorem reach_one (hsz : ∀ e ∈ g, e.2.1.size ≤ 140737488351232) (u : ByteArray) : ∃ s, s.Pairwise lt1 ∧ (∀ m, m ∈ s ↔ ∃ k, 1 ≤ k ∧ firstAt g u k m) ∧ s.length ≤ 200 ∧ ∃ rs, Ev (fun K _ => spec_l5Rings.f K g u) rs ∧ RingsOf g u 1 rs ∧ rs.length ≤ 200 ∧
    ∀ (x15 : List ByteArray) (x16 x17 : Int) (y0 : List T68), y0.length ≤ 800000 → ∀ r, Ev (fun K i => spec_l5Reach.l8 K i g x15 x16 (wrap64 (x17 + 1)) (y0 ++ rows g u s)) r → Ev (fun K i => spec_l5Reach.l27 K i g u rs x15 x16 x17 rs (rs.length : Int) 0 y0 []) r := by
  obtain ⟨rs, er, hR, hl⟩ := l5Rings_ev hg u
  have hfl := flatten_len rs hR.short
  have hfl2 : rs.flatten.length ≤ 40000 := Nat.le_trans hfl (Nat.le_trans (Nat.mul_le_mul_right 200 hl) (by omega))
  obtain ⟨s, es, ps, ms⟩ := l5Sorted_ev rs.flatten (by omega) (fun m hm => by
    obtain ⟨k, k1, k2⟩ := (rings_mem hR).1 hm
    obtain ⟨e, he, rfl⟩ := firstAt_member k1 k2
    exact hsz e he)
  have hmem : ∀ m, m ∈ s ↔ ∃ k, 1 ≤ k ∧ firstAt g u k m := fun m => (ms m).trans (rings_mem hR)
  have hlen : s.length ≤ 200 := by
    have := nodup_len s (g.map fun e => e.2.1) (sorted_nodup ps) (fun x hx => by
      obtain ⟨k, k1, k2⟩ := (hmem x).1 hx
      obtain ⟨e, he, rfl⟩ := firstAt_member k1 k2
      exact List.mem_map_of_mem he)
    rw [List.length_map] at this; omega
  refine ⟨s, ps, hmem, hlen, rs, er, hR, hl, fun x15 x16 x17 y0 hy r hr => ?_⟩
  refine reach_all u rs hR hl x15 x16 x17 y0 rs.length 0 [] (by omega) (by simp) r ?_
  rw [List.drop_zero, List.nil_append]
  refine es.bind ?_
  exact reach_members u rs hR hl x15 x16 x17 s hlen (fun m hm => (hmem m).1 hm) s.length 0 y0 (by omega) (by omega) r (by rw [List.drop_zero]; exact hr)
theorem reach_groups (hsz : ∀ e ∈ g, e.2.1.size ≤ 140737488351232) (gs : List ByteArray) (hgs : gs.Pairwise lt1) (hgl : gs.length ≤ 200) : ∀ (d i : Nat) (y0 : List T68), gs.length = i + d → y0.length ≤ 200 * i →
    ∃ R, Ev (fun K j => spec_l5Reach.l8 K j g gs (gs.length : Int) (i : Int) y0) (y0 ++ R) ∧ R.Pairwise lt2 ∧ (∀ e, e ∈ R ↔ e.1 ∈ gs.drop i ∧ Steps g e) ∧ R.length ≤ 200 * d
  | 0, i, y0, h, hy => by
    obtain rfl : i = gs.length := by omega
    refine ⟨[], ?_, List.Pairwise.nil, fun e => by rw [List.drop_length]; simp, by simp⟩
    rw [List.append_nil]
    exact Ev.lp (fun K j => spec_l5Reach.l8_eq K j g gs _ _ y0) (Ev.no (by omega) (Ev.now _))
  | d + 1, i, y0, h, hy => by
    have hi : i < gs.length := by omega
    obtain ⟨s, ps, ms, ls, rs, er, hR, hrl, go1⟩ := reach_one hg hsz gs[i]
    have hrow : (rows g gs[i] s).length = s.length := by unfold rows; rw [List.length_map]
    obtain ⟨R, e1, p1, m1, l1⟩ := reach_groups hsz gs hgs hgl d (i + 1) (y0 ++ rows g gs[i] s) (by omega) (by rw [List.length_append, hrow]; omega)
    refine ⟨rows g gs[i] s ++ R, ?_, ?_, fun e => ?_, by rw [List.length_append, hrow]; omega⟩
    · refine Ev.lp (fun K j => spec_l5Reach.l8_eq K j g gs _ i y0) (Ev.yes (by omega) (Ev.yes (by omega) ?_))
      rw [rd_at _ _ _ hi]
      refine er.bind (go1 gs (gs.length : Int) (i : Int) y0 (by omega) _ ?_)
      rw [wrap_nat (by omega), ← List.append_assoc]
      exact e1
    · rw [List.pairwise_append]
      refine ⟨rows_sorted ps, p1, fun a ha b hb => ?_⟩
      have h1 := ((rows_mem ms a).1 ha).1
      have h2 := ((m1 b).1 hb).1
      obtain ⟨j, hj, hj2⟩ := List.getElem_of_mem h2
      rw [List.length_drop] at hj
      rw [List.getElem_drop] at hj2
      have := List.pairwise_iff_getElem.1 hgs i (i + 1 + j) hi (by omega) (by omega)
      unfold lt1 at this
      rw [hj2, ← h1] at this
      show kc (rkey a) (rkey b) < 0
      unfold kc rkey
      rw [if_neg (by show ¬ cmpT a.1 b.1 = 0; omega)]
      exact this
    · rw [List.mem_append, rows_mem ms, m1, List.drop_eq_getElem_cons hi, List.mem_cons]
      constructor
      · rintro (⟨a, b⟩ | ⟨a, b⟩)
        · exact ⟨.inl a, b⟩
        · exact ⟨.inr a, b⟩
      · rintro ⟨a | a, b⟩
        · exact .inl ⟨a, b⟩
        · exact .inr ⟨a, b⟩
theorem groups_loop : ∀ (d i : Nat) (y0 : List ByteArray), g.length = i + d → y0.length ≤ i → ∀ r, Ev (fun K _ => spec_l5Sorted.f K (y0 ++ (g.drop i).map fun e => e.1)) r → Ev (fun K j => spec_l5Groups.l8 K j g (g.length : Int) (i : Int) y0) r
  | 0, i, y0, h, hy, r, hr => by
    obtain rfl : i = g.length := by omega
    rw [List.drop_length, List.map_nil, List.append_nil] at hr
    exact Ev.lp (fun K j => spec_l5Groups.l8_eq K j g _ _ y0) (Ev.no (by omega) hr.tail)
  | d + 1, i, y0, h, hy, r, hr => by
    have hi : i < g.length := by omega
    refine Ev.lp (fun K j => spec_l5Groups.l8_eq K j g _ i y0) (Ev.yes (by omega) (Ev.yes (by omega) (Ev.yes (most16 (by simp; omega)) ?_)))
    rw [rd_at _ _ _ hi, wrap_nat (by omega)]
    refine groups_loop d (i + 1) _ (by omega) (by simp [app]; omega) r ?_
    rw [List.drop_eq_getElem_cons hi, List.map_cons] at hr
    unfold app
    rw [List.append_assoc]; exact hr
theorem l5Groups_ev (hsz : ∀ e ∈ g, e.1.size ≤ 140737488351232) : ∃ gs, Ev (fun K _ => spec_l5Groups.f K g) gs ∧ gs.Pairwise lt1 ∧ (∀ u, u ∈ gs ↔ ∃ e ∈ g, e.1 = u) ∧ gs.length ≤ 200 := by
  obtain ⟨gs, e, p, m⟩ := l5Sorted_ev (g.map fun e => e.1) (by rw [List.length_map]; omega) (fun x hx => by
    obtain ⟨e, he, rfl⟩ := List.mem_map.1 hx
    exact hsz e he)
  refine ⟨gs, Ev.fn (fun k => spec_l5Groups.f_eq k g) (Ev.diag (groups_loop hg g.length 0 [] (by omega) (by simp) gs (by rw [List.drop_zero, List.nil_append]; exact e))), p, fun u => ?_, ?_⟩
  · rw [m, List.mem_map]
  · have := nodup_len gs (g.map fun e => e.1) (sorted_nodup p) (fun x hx => (m x).1 hx)
    rw [List.length_map] at this; omega
/-- what both sides come to -/
structure ReachIs (g : List T24) (L : List T68) : Prop where
  srt : L.Pairwise lt2
  mem : ∀ e, e ∈ L ↔ (∃ d ∈ g, d.1 = e.1) ∧ Steps g e
  len : L.length ≤ 40000
theorem l5Reach_ev (hz1 : ∀ e ∈ g, e.1.size ≤ 140737488351232) (hz2 : ∀ e ∈ g, e.2.1.size ≤ 140737488351232) : ∃ L, Ev (fun K _ => spec_l5Reach.f K g) L ∧ ReachIs g L := by
  obtain ⟨gs, eg, pg, mg, lg⟩ := l5Groups_ev hg hz1
  obtain ⟨R, e, p, m, l⟩ := reach_groups hg hz2 gs pg lg gs.length 0 [] (by omega) (by simp)
  exact ⟨R, Ev.fn (fun k => spec_l5Reach.f_eq k g) (eg.bind (Ev.diag e)), p, fun e => by rw [m, List.drop_zero, mg], by omega⟩
theorem firstAt_le {u m : ByteArray} {k : Nat} (h : firstAt g u k m) : k ≤ 200 := by
  obtain ⟨rs, _, hR, hl⟩ := l5Rings_ev hg u
  rcases Nat.lt_or_ge rs.length k with q | q
  · have := hR.end_ (k - 1) (by omega) m
    rw [show 1 + (k - 1) = k by omega] at this
    exact absurd h this
  · omega
omit hg in
theorem reach_range (i : Nat) (hi : i ≤ 1000) (u m1 : ByteArray) (M : List (ByteArray × Int)) (Y : List T68) (hY : Y.length ≤ 500000) (r : List T68 × Unit) (H : ∀ y' : List T68, y'.Perm Y → Ev (fun K j => impl_yreach_m.l8 K j g g (g.length : Int) ((i + 1 : Nat) : Int) y') r) :
    ∀ (n : Nat) (rem : List (ByteArray × Int)) (y0 : List T68), rem.length = n → (y0 ++ rem.map fun p => ((u, p.1, p.2, ()) : T68)).Perm Y → Ev (fun K j => impl_yreach_m.l28 K j g g (g.length : Int) (i : Int) y0 u m1 M rem) r
  | 0, rem, y0, hn, hp => by
    obtain rfl := List.eq_nil_of_length_eq_zero hn
    refine Ev.lp (fun K j => impl_yreach_m.l28_eq K j g g _ i y0 u m1 M []) (Ev.yes rfl ?_)
    rw [wrap_nat (by omega)]
    exact H y0 (by simpa using hp)
  | n + 1, rem, y0, hn, hp => by
    have hlen := hp.length_eq
    rw [List.length_append, List.length_map] at hlen
    refine Ev.lp (fun K j => impl_yreach_m.l28_eq K j g g _ i y0 u m1 M rem) (Ev.no (by omega) (Ev.allK (n := rem.length) (by omega) fun k hk => ?_))
    rw [rd_at _ _ _ hk]
    refine Ev.yes (most40 (by simp; omega)) ?_
    rw [show del rem (k : Int) = rem.eraseIdx k by unfold del; rw [Int.toNat_natCast]]
    refine reach_range i hi u m1 M Y hY r H n _ _ (by rw [List.length_eraseIdx_of_lt hk]; omega) ?_
    refine List.Perm.trans ?_ hp
    unfold app
    rw [List.append_assoc]
    exact List.Perm.append_left y0 (show (([(u, rem[k].1, rem[k].2, ())] : List T68) ++ (rem.eraseIdx k).map fun p => ((u, p.1, p.2, ()) : T68)).Perm (rem.map fun p => ((u, p.1, p.2, ()) : T68)) from List.Perm.map (fun p : ByteArray × Int => ((u, p.1, p.2, ()) : T68)) (erase_perm rem k hk))
omit hg in
structure Got (g : List T24) (i : Nat) (Y : List T68) : Prop where
  nd : Y.Nodup
  mem : ∀ e, e ∈ Y ↔ (∃ j, ∃ h : j < g.length, j < i ∧ g[j].1 = e.1) ∧ Steps g e
  len : Y.length ≤ 200 * i
omit hg in
theorem Got.perm {i : Nat} {Y y : List T68} (h : Got g i Y) (hp : y.Perm Y) : Got g i y :=
  ⟨hp.nodup_iff.2 h.nd, fun e => (hp.mem_iff).trans (h.mem e), by rw [hp.length_eq]; exact h.len⟩
theorem reach_sort (hz1 : ∀ e ∈ g, e.1.size ≤ 140737488351232) (hz2 : ∀ e ∈ g, e.2.1.size ≤ 140737488351232) {Y L : List T68} (h : Got g g.length Y) (hL : ReachIs g L) : Ev (fun K _ => slices_SortFunc_impl_Reach_impl_Reach_m.f K Y) (L, ()) := by
  have hfit : ∀ e ∈ Y, fitSh S68 e := fun e he => by
    obtain ⟨⟨j, hj, _, h1⟩, k, k1, k2, k3⟩ := (h.mem e).1 he
    obtain ⟨d, hd, h2⟩ := firstAt_member k1 k2
    have := firstAt_le hg k2
    refine ⟨?_, ?_, ?_, trivial⟩
    · show e.1.size ≤ _
      rw [← h1]; exact hz1 _ (List.getElem_mem hj)
    · show e.2.1.size ≤ _
      rw [← h2]; exact hz2 d hd
    · show fitSh (.int .i64) e.2.2.1
      rw [k3]; exact fit_len (by omega)
  obtain ⟨l2, e2, hp, hs⟩ := Ev.sort (c := fun K x y => impl_yreach_1.f K x y) (cf := fun x y => kc (rkey x) (rkey y)) (l := Y) (fun x hx y hy => by
    have := (impl_yreach_1.v_ev x y (hfit x hx) (hfit y hy)).1
    rw [cmpReach] at this
    exact this) (kc_swo rkey)
  have hstrict : l2.Pairwise lt2 := by
    rw [List.pairwise_iff_getElem] at hs ⊢
    intro i j hi hj hij
    have h1 := hs i j hi hj hij
    have hne : l2[i] ≠ l2[j] := (List.pairwise_iff_getElem.1 (hp.nodup_iff.2 h.nd)) i j hi hj hij
    have h2 := (h.mem _).1 (hp.mem_iff.1 (List.getElem_mem hi))
    have h3 := (h.mem _).1 (hp.mem_iff.1 (List.getElem_mem hj))
    unfold lt2
    have h4 : kc (rkey l2[i]) (rkey l2[j]) ≠ 0 := fun q => hne (steps_same h2.2 h3.2 (kc_zero.1 q))
    rw [kc_anti] at h1
    omega
  have e3 : l2 = L := eq_of_strict lt2_irrefl lt2_asymm hstrict hL.srt fun e => by
    rw [hp.mem_iff, h.mem, hL.mem]
    refine and_congr_left fun _ => ⟨fun ⟨j, hj, _, q⟩ => ⟨_, List.getElem_mem hj, q⟩, fun ⟨d, hd, q⟩ => ?_⟩
    obtain ⟨j, hj, rfl⟩ := List.getElem_of_mem hd
    exact ⟨j, hj, hj, q⟩
  subst e3
  refine Ev.fn (fun k => slices_SortFunc_impl_Reach_impl_Reach_m.f_eq k Y) ?_
  obtain ⟨n, hn⟩ := e2
  exact ⟨n, fun K j h1 h2 => sortEq_ok (by decide) (by have := h.len; show List.length (α := T68) Y < 4611686018427387904; omega) (hn K j h1 h2)⟩
theorem yreach_loop (hgood : spec_GoodNests.v g = true) (hz1 : ∀ e ∈ g, e.1.size ≤ 140737488351232) (hz2 : ∀ e ∈ g, e.2.1.size ≤ 140737488351232) {L : List T68} (hL : ReachIs g L) : ∀ (d i : Nat) (Y : List T68), g.length = i + d → Got g i Y → Ev (fun K j => impl_yreach_m.l8 K j g g (g.length : Int) (i : Int) Y) (L, ())
  | 0, i, Y, h, hY => by
    obtain rfl : i = g.length := by omega
    exact Ev.lp (fun K j => impl_yreach_m.l8_eq K j g g _ _ Y) (Ev.no (by omega) (reach_sort hg hz1 hz2 hY hL).tail)
  | d + 1, i, Y, h, hY => by
    have hi : i < g.length := by omega
    have cont : (∀ j, (hj : j < i) → g[j].1 ≠ g[i].1) → Ev (fun K j => (impl_yfrom_m.f K g g[i].1).bind fun t0 => impl_yreach_m.l28 K j g g (g.length : Int) (i : Int) Y g[i].1 g[i].2.1 t0.1 t0.1) (L, ()) := fun hnew => by
      obtain ⟨M, hK, eM, hM⟩ := yfrom_ev hg g[i].1
      have hin : ∀ p ∈ M, Steps g ((g[i].1, p.1, p.2, ()) : T68) := fun p hp => by
        have h1 := gv_of hK.1 p hp
        rcases hM p.1 with ⟨z, _⟩ | ⟨k, k1, k2, k3⟩
        · exact absurd (h1.symm.trans z) (hK.2 p hp)
        · exact ⟨k, k1, k3, by rw [← h1]; exact k2⟩
      have hMl : M.length ≤ 200 := by
        have := nodup_len (M.map fun p => p.1) (g.map fun e => e.2.1) hK.1 (fun x hx => by
          obtain ⟨p, hp, rfl⟩ := List.mem_map.1 hx
          obtain ⟨k, k1, k2, _⟩ := hin p hp
          obtain ⟨e, he, h2⟩ := firstAt_member k1 k2
          exact List.mem_map.2 ⟨e, he, h2⟩)
        rw [List.length_map, List.length_map] at this; omega
      have hGot : Got g (i + 1) (Y ++ M.map fun p => ((g[i].1, p.1, p.2, ()) : T68)) := by
        refine ⟨List.nodup_append.2 ⟨hY.nd, ?_, fun a ha b hb e => ?_⟩, fun e => ?_, by rw [List.length_append, List.length_map]; have := hY.len; omega⟩
        · have := hK.1
          unfold List.Nodup at this ⊢
          rw [List.pairwise_map] at this ⊢
          exact List.Pairwise.imp (fun {a b} (q : a.1 ≠ b.1) (e : ((g[i].1, a.1, a.2, ()) : T68) = (g[i].1, b.1, b.2, ())) => q (congrArg (fun x : T68 => x.2.1) e)) this
        · obtain ⟨p, hp, rfl⟩ := List.mem_map.1 hb
          obtain ⟨⟨j, hj, hji, q⟩, _⟩ := (hY.mem a).1 ha
          rw [e] at q
          exact hnew j hji q
        · rw [List.mem_append, hY.mem, List.mem_map]
          constructor
          · rintro (⟨⟨j, hj, hji, q⟩, s⟩ | ⟨p, hp, rfl⟩)
            · exact ⟨⟨j, hj, by omega, q⟩, s⟩
            · exact ⟨⟨i, hi, by omega, rfl⟩, hin p hp⟩
          · rintro ⟨⟨j, hj, hji, q⟩, s⟩
            by_cases z : j = i
            · subst z
              obtain ⟨k, k1, k2, k3⟩ := s
              rw [← q] at k2
              refine .inr ⟨(e.2.1, e.2.2.1), ?_, ?_⟩
              · rcases hM e.2.1 with ⟨_, no⟩ | ⟨k', k1', k2', k3'⟩
                · exact absurd k2 (no k k1)
                · have := firstAt_uniq k2 k3' k1 k1'
                  subst this
                  have h5 := gv_in (M := M) (m := e.2.1) (by rw [k2']; omega)
                  rw [k2', ← k3] at h5
                  exact h5
              · rw [q]
            · exact .inl ⟨⟨j, hj, by omega, q⟩, s⟩
      refine eM.bind ?_
      exact reach_range i (by omega) g[i].1 g[i].2.1 M _ (by have := hGot.len; omega) _ (fun y' hp => yreach_loop hgood hz1 hz2 hL d (i + 1) y' (by omega) (hGot.perm hp)) M.length M Y rfl (List.Perm.refl _)
    refine Ev.lp (fun K j => impl_yreach_m.l8_eq K j g g _ i Y) (Ev.yes (by omega) (Ev.yes (by omega) ?_))
    rw [rd_at _ _ _ hi, wrap_nat (by omega)]
    by_cases h0 : 0 < i
    · refine Ev.yes (by omega) ?_
      rw [show wrap64 ((i : Int) - 1) = ((i - 1 : Nat) : Int) from cast_pred h0 (by omega), rd_at _ _ _ (show i - 1 < g.length by omega)]
      refine Ev.yes (by omega) ?_
      by_cases q : g[i - 1].1 = g[i].1
      · refine Ev.yes (toList_iff.2 q) (yreach_loop hgood hz1 hz2 hL d (i + 1) Y (by omega) ⟨hY.nd, fun e => ?_, by have := hY.len; omega⟩)
        rw [hY.mem]
        refine and_congr_left fun _ => ⟨fun ⟨j, hj, hji, z⟩ => ⟨j, hj, by omega, z⟩, fun ⟨j, hj, hji, z⟩ => ?_⟩
        by_cases w : j = i
        · subst w; exact ⟨j - 1, by omega, by omega, q.trans z⟩
        · exact ⟨j, hj, by omega, z⟩
      · exact Ev.no (fun z => q (toList_iff.1 z)) (cont fun j hj => nests_groups hgood hj hi q)
    · exact Ev.no (by omega) (cont fun j hj => by omega)
theorem yreach_ev (hgood : spec_GoodNests.v g = true) (hz1 : ∀ e ∈ g, e.1.size ≤ 140737488351232) (hz2 : ∀ e ∈ g, e.2.1.size ≤ 140737488351232) {L : List T68} (hL : ReachIs g L) : Ev (fun K _ => impl_yreach_m.f K g) (L, ()) :=
  Ev.fn (fun k => impl_yreach_m.f_eq k g) (Ev.diag (yreach_loop hg hgood hz1 hz2 hL g.length 0 [] (by omega) ⟨List.nodup_nil, fun e => ⟨fun h => (by cases h), fun ⟨⟨j, _, h, _⟩, _⟩ => absurd h (Nat.not_lt_zero _)⟩, by simp⟩))
end

/-! ### rows that are good, put together -/
theorem nests_build (x0 : List T24) (hx : x0.length ≤ 200) (hg : ∀ e ∈ x0, groupName e.1 = true ∧ goodName e.2.1 = true) (hs : ∀ j (h : j < x0.length), 0 < j → kc (x0[j - 1].1, x0[j - 1].2.1) (x0[j].1, x0[j].2.1) < 0) :
    ∀ (rest : List T24) (i : Nat), x0.drop i = rest → spec_GoodNests.l14.v x0 rest i = true
  | [], i, _ => rfl
  | e :: rest, i, hd => by
    obtain ⟨hi, hd2, hr⟩ := drop_more hd
    have he : x0[i] = e := by have := hr Z24; rwa [rd_at _ _ _ hi] at this
    have ih := nests_build x0 hx hg hs rest (i + 1) hd2
    obtain ⟨g1, g2⟩ := hg e (he ▸ List.getElem_mem hi)
    unfold spec_GoodNests.l14.v
    show (if spec_l5Group.v e.1 = true then (if spec_GoodName.v e.2.1 = true then (if (i : Int) > 0 then (if spec_l5CmpNest.v (rd Z24 x0 (wrap64 ((i : Int) - 1))) e ≥ 0 then false else spec_GoodNests.l14.v x0 rest (i + 1)) else spec_GoodNests.l14.v x0 rest (i + 1)) else false) else false) = true
    rw [if_pos (show spec_l5Group.v e.1 = true from g1), if_pos (show spec_GoodName.v e.2.1 = true from g2)]
    by_cases h0 : (i : Int) > 0
    · rw [if_pos h0, show wrap64 ((i : Int) - 1) = ((i - 1 : Nat) : Int) from cast_pred (by omega) (by omega), rd_at _ _ _ (show i - 1 < x0.length by omega)]
      have h1 := hs i hi (by omega)
      have h2 : spec_l5CmpNest.v x0[i - 1] e = kc (x0[i - 1].1, x0[i - 1].2.1) (e.1, e.2.1) := by unfold spec_l5CmpNest.v kc; rfl
      rw [he, ← h2] at h1
      rw [if_neg (by omega)]; exact ih
    · rw [if_neg h0]; exact ih
theorem nests_all (x0 : List T24) : ∀ (rest : List T24) (i : Nat), spec_GoodNests.l14.v x0 rest i = true → ∀ e ∈ rest, groupName e.1 = true ∧ goodName e.2.1 = true
  | [], _, _, e, he => by cases he
  | d :: rest, i, hv, e, he => by
    unfold spec_GoodNests.l14.v at hv
    have hv : (if spec_l5Group.v d.1 = true then (if spec_GoodName.v d.2.1 = true then (if (i : Int) > 0 then (if spec_l5CmpNest.v (rd Z24 x0 (wrap64 ((i : Int) - 1))) d ≥ 0 then false else spec_GoodNests.l14.v x0 rest (i + 1)) else spec_GoodNests.l14.v x0 rest (i + 1)) else false) else false) = true := hv
    by_cases a : spec_l5Group.v d.1 = true
    · rw [if_pos a] at hv
      by_cases b : spec_GoodName.v d.2.1 = true
      · rw [if_pos b] at hv
        have hv2 : spec_GoodNests.l14.v x0 rest (i + 1) = true := by
          by_cases q : (i : Int) > 0
          · rw [if_pos q] at hv
            by_cases hc : spec_l5CmpNest.v (rd Z24 x0 (wrap64 ((i : Int) - 1))) d ≥ 0
            · rw [if_pos hc] at hv; cases hv
            · rw [if_neg hc] at hv; exact hv
          · rw [if_neg q] at hv; exact hv
        rcases List.mem_cons.1 he with rfl | he
        · exact ⟨a, b⟩
        · exact nests_all x0 rest (i + 1) hv2 e he
      · rw [if_neg b] at hv; cases hv
    · rw [if_neg a] at hv; cases hv
def nkey (e : T24) : ByteArray × ByteArray := (e.1, e.2.1)
theorem nests_iff (g : List T24) : spec_GoodNests.v g = true ↔ g.length ≤ 200 ∧ (∀ e ∈ g, groupName e.1 = true ∧ goodName e.2.1 = true) ∧ g.Pairwise (fun a b => kc (nkey a) (nkey b) < 0) := by
  constructor
  · intro h
    refine ⟨nests_len h, ?_, ?_⟩
    · have h' : spec_GoodNests.l14.v g g 0 = true := by
        unfold spec_GoodNests.v at h
        split at h
        · cases h
        · exact h
      exact nests_all g g 0 h'
    · rw [List.pairwise_iff_getElem]
      intro i j hi hj hij
      obtain ⟨d, rfl⟩ : ∃ d, j = i + d + 1 := ⟨j - i - 1, by omega⟩
      exact nests_sorted h d i hj
  · rintro ⟨h1, h2, h3⟩
    unfold spec_GoodNests.v
    rw [if_neg (by omega)]
    exact nests_build g h1 h2 (fun j h h0 => (List.pairwise_iff_getElem.1 h3) (j - 1) j (by omega) h (by omega)) g 0 rfl
theorem nests_filter {g : List T24} (h : spec_GoodNests.v g = true) (p : T24 → Bool) : spec_GoodNests.v (g.filter p) = true := by
  obtain ⟨h1, h2, h3⟩ := (nests_iff g).1 h
  exact (nests_iff _).2 ⟨Nat.le_trans (List.length_filter_le p g) h1, fun e he => h2 e (List.mem_filter.1 he).1, List.Pairwise.filter p h3⟩

theorem most32 {n : Nat} (h : n ≤ 1000000) : n ≤ most 32 := by unfold most; omega
theorem clone_ev (l : List T24) (hl : l.length ≤ 1000000) : Ev (fun K _ => slices_Clone_impl_Nest_impl_Nest_m.f K l) (l, ()) := by
  refine Ev.fn (fun k => slices_Clone_impl_Nest_impl_Nest_m.f_eq k l) ?_
  by_cases h : l.length = 0
  · obtain rfl := List.eq_nil_of_length_eq_zero h
    refine Ev.yes (by simp) (Ev.allK (n := 2) (by omega) fun i hi => ?_)
    exact Ev.ite (fun _ => Ev.now _) fun _ => Ev.yes (most32 (by simp)) (Ev.now _)
  · exact Ev.no (by omega) (Ev.yes (most32 (by simpa using hl)) (Ev.some (by simp [app])))
theorem cmpNest_zero (a b : T24) : spec_l5CmpNest.v a b = 0 ↔ a = b := by
  have h : spec_l5CmpNest.v a b = kc (nkey a) (nkey b) := by unfold spec_l5CmpNest.v kc nkey; rfl
  rw [h, kc_zero]
  obtain ⟨a1, a2, _⟩ := a
  obtain ⟨b1, b2, _⟩ := b
  simp [nkey]
open Classical in
theorem with_drop (n : T24) (hn : fitSh S24 n) (l : List T24) (hl : l.length ≤ 1000) (hf : ∀ e ∈ l, fitSh S24 e) : ∀ (d i : Nat) (y : List T24), l.length = i + d → y.length ≤ i + 1 → Ev (fun K j => spec_l5With.l10 K j true l (l.length : Int) (i : Int) n.1 n.2.1 y) (y ++ (l.drop i).filter fun e => decide (e ≠ n))
  | 0, i, y, h, hy => by
    obtain rfl : i = l.length := by omega
    rw [List.drop_length, List.filter_nil, List.append_nil]
    exact Ev.lp (fun K j => spec_l5With.l10_eq K j true l _ _ _ _ y) (Ev.no (by omega) (Ev.yes rfl (Ev.now _)))
  | d + 1, i, y, h, hy => by
    have hi : i < l.length := by omega
    have hc := (spec_l5CmpNest.v_ev l[i] n (hf _ (List.getElem_mem hi)) hn).1
    refine Ev.lp (fun K j => spec_l5With.l10_eq K j true l _ i _ _ y) (Ev.yes (by omega) (Ev.yes (by omega) ?_))
    rw [rd_at _ _ _ hi, wrap_nat (by omega), List.drop_eq_getElem_cons hi, List.filter_cons]
    refine hc.bind ?_
    by_cases q : l[i] = n
    · have z := (cmpNest_zero l[i] n).2 q
      rw [if_neg (by simpa using q)]
      exact Ev.yes (by omega) (Ev.yes rfl (Ev.yes z (with_drop n hn l hl hf d (i + 1) y (by omega) (by omega))))
    · have z : spec_l5CmpNest.v l[i] n ≠ 0 := fun w => q ((cmpNest_zero l[i] n).1 w)
      rw [if_pos (by simpa using q)]
      have ih := with_drop n hn l hl hf d (i + 1) (y ++ [l[i]]) (by omega) (by simp; omega)
      rw [List.append_assoc] at ih
      refine Ev.ite (fun w => Ev.yes rfl (Ev.no z (Ev.yes (most32 (by simp; omega)) ih))) fun w => Ev.no z (Ev.yes (most32 (by simp; omega)) ih)

/-! ### a search in a sorted row, by halves -/
theorem half_eq (i j : Nat) (h : i + j ≤ 4000000000) : wrap64 (shrI .u64 (wr .u64 (wrap64 ((i : Int) + (j : Int)))) 1) = (((i + j) / 2 : Nat) : Int) := by
  rw [wrap_id (x := (i : Int) + j) (by omega) (by omega)]
  have e : wr .u64 ((i : Int) + j) = (i : Int) + j := by
    show (IntKind.u64).wrap _ = _
    simp only [IntKind.wrap, IntKind.bits, IntKind.signed]
    simp
    omega
  rw [e]
  have e2 : shrI .u64 ((i : Int) + j) 1 = (((i + j) / 2 : Nat) : Int) := by
    unfold shrI
    show ((i : Int) + j).fdiv 2 = _
    rw [Int.fdiv_eq_ediv_of_nonneg _ (by omega)]
    omega
  rw [e2, wrap_id (by omega) (by omega)]
theorem bs_loop {α β : Type} {L : Nat → Nat → Int → Int → Option β} {l : List α} {p : α → Bool}
    (mono : ∀ i j (hi : i < l.length) (hj : j < l.length), i ≤ j → p l[j] = true → p l[i] = true)
    (step : ∀ (i j h : Nat) (hl : h < l.length), i ≤ h → h < j → j ≤ l.length → h = (i + j) / 2 → (p l[h] = true → ∀ r, Ev (fun K q => L K q ((h + 1 : Nat) : Int) (j : Int)) r → Ev (fun K q => L K q (i : Int) (j : Int)) r) ∧ (p l[h] = false → ∀ r, Ev (fun K q => L K q (i : Int) (h : Int)) r → Ev (fun K q => L K q (i : Int) (j : Int)) r)) :
    ∀ (d i j : Nat), j = i + d → j ≤ l.length → (∀ t (h : t < l.length), t < i → p l[t] = true) → (∀ t (h : t < l.length), j ≤ t → p l[t] = false) →
      ∃ m, m ≤ l.length ∧ (∀ t (h : t < l.length), t < m → p l[t] = true) ∧ (∀ t (h : t < l.length), m ≤ t → p l[t] = false) ∧ ∀ r, Ev (fun K q => L K q (m : Int) (m : Int)) r → Ev (fun K q => L K q (i : Int) (j : Int)) r := by
  intro d
  induction d using Nat.strongRecOn with
  | ind d ih =>
    intro i j hj hl h1 h2
    by_cases h0 : d = 0
    · subst h0
      obtain rfl : j = i := by omega
      exact ⟨j, hl, h1, h2, fun r hr => hr⟩
    · have hh : (i + j) / 2 < l.length := by omega
      obtain ⟨s1, s2⟩ := step i j ((i + j) / 2) hh (by omega) (by omega) hl rfl
      cases hp : p l[(i + j) / 2] with
      | true =>
        obtain ⟨m, m1, m2, m3, m4⟩ := ih (j - ((i + j) / 2 + 1)) (by omega) ((i + j) / 2 + 1) j (by omega) hl (fun t h ht => mono t _ h hh (by omega) hp) h2
        exact ⟨m, m1, m2, m3, fun r hr => s1 hp r (m4 r hr)⟩
      | false =>
        obtain ⟨m, m1, m2, m3, m4⟩ := ih ((i + j) / 2 - i) (by omega) i ((i + j) / 2) (by omega) (by omega) h1 (fun t h ht => by
          cases q : p l[t] with
          | false => rfl
          | true => rw [mono _ t hh h ht q] at hp; cases hp)
        exact ⟨m, m1, m2, m3, fun r hr => s2 hp r (m4 r hr)⟩

theorem cmpNest_key (a b : T24) : spec_l5CmpNest.v a b = kc (nkey a) (nkey b) := by unfold spec_l5CmpNest.v kc nkey; rfl
theorem nkey_inj {a b : T24} (h : nkey a = nkey b) : a = b := by
  obtain ⟨a1, a2, _⟩ := a
  obtain ⟨b1, b2, _⟩ := b
  simpa [nkey] using h
/-- where n stands, or is to stand -/
structure Stands (l : List T24) (n : T24) (m : Nat) : Prop where
  le : m ≤ l.length
  lt : ∀ t (h : t < l.length), t < m → kc (nkey l[t]) (nkey n) < 0
  ge : ∀ t (h : t < l.length), m ≤ t → ¬ kc (nkey l[t]) (nkey n) < 0
theorem bsearch_ev {l : List T24} (hg : spec_GoodNests.v l = true) (hf : ∀ e ∈ l, fitSh S24 e) {n : T24} (hn : fitSh S24 n) :
    ∃ m, Stands l n m ∧ ∃ b : Bool, Ev (fun K _ => slices_BinarySearchFunc_impl_Nest_impl_Nest_impl_Nest.f K l n) ((m : Int), b, ()) ∧ (b = true ↔ ∃ h : m < l.length, l[m] = n) := by
  have hl := nests_len hg
  have hs := ((nests_iff l).1 hg).2.2
  have cmp : ∀ (t : Nat) (h : t < l.length), Ev (fun K _ => impl_ycmpNest.f K l[t] (n.1, n.2.1, ())) (kc (nkey l[t]) (nkey n)) := fun t h => by
    have := (impl_ycmpNest.v_ev l[t] n (hf _ (List.getElem_mem h)) hn).1
    rw [cmpNest_same, cmpNest_key] at this
    exact this
  obtain ⟨m, m1, m2, m3, m4⟩ := bs_loop (L := fun K q i j => slices_BinarySearchFunc_impl_Nest_impl_Nest_impl_Nest.l8 K q l (l.length : Int) i j n.1 n.2.1) (l := l) (p := fun e => decide (kc (nkey e) (nkey n) < 0))
    (fun i j hi hj hij hp => by
      rw [decide_eq_true_eq] at hp ⊢
      rcases Nat.lt_or_eq_of_le hij with q | rfl
      · exact kc_trans ((List.pairwise_iff_getElem.1 hs) i j hi hj q) hp
      · exact hp)
    (fun i j h hhl h1 h2 h3 h4 => by
      have e : wrap64 (shrI .u64 (wr .u64 (wrap64 ((i : Int) + (j : Int)))) 1) = (h : Int) := by rw [half_eq _ _ (by omega), h4]
      constructor
      · intro hp r hr
        refine Ev.lp (fun K q => slices_BinarySearchFunc_impl_Nest_impl_Nest_impl_Nest.l8_eq K q l _ i j n.1 n.2.1) (Ev.yes (by omega) ?_)
        rw [e]
        refine Ev.yes (by omega) ?_
        rw [rd_at _ _ _ hhl, wrap_nat (by omega)]
        exact (cmp h hhl).bind (Ev.yes (of_decide_eq_true hp) hr)
      · intro hp r hr
        refine Ev.lp (fun K q => slices_BinarySearchFunc_impl_Nest_impl_Nest_impl_Nest.l8_eq K q l _ i j n.1 n.2.1) (Ev.yes (by omega) ?_)
        rw [e]
        refine Ev.yes (by omega) ?_
        rw [rd_at _ _ _ hhl, wrap_nat (by omega)]
        exact (cmp h hhl).bind (Ev.no (of_decide_eq_false hp) hr))
    l.length 0 l.length (by omega) (Nat.le_refl _) (fun t _ h => by omega) (fun t h h' => by omega)
  have st : Stands l n m := ⟨m1, fun t h ht => of_decide_eq_true (m2 t h ht), fun t h ht => of_decide_eq_false (m3 t h ht)⟩
  by_cases q : m < l.length
  · refine ⟨m, st, decide (kc (nkey l[m]) (nkey n) = 0), Ev.fn (fun k => slices_BinarySearchFunc_impl_Nest_impl_Nest_impl_Nest.f_eq k l n) (Ev.diag (m4 _ ?_)), ?_⟩
    · refine Ev.lp (fun K q => slices_BinarySearchFunc_impl_Nest_impl_Nest_impl_Nest.l8_eq K q l _ m m n.1 n.2.1) (Ev.no (by omega) (Ev.yes (by omega) (Ev.yes (by omega) ?_)))
      rw [rd_at _ _ _ q]
      exact (cmp m q).bind (Ev.now _)
    · rw [decide_eq_true_eq]
      exact ⟨fun h => ⟨q, nkey_inj (kc_zero.1 h)⟩, fun ⟨_, h⟩ => by rw [h]; exact kc_zero.2 rfl⟩
  · refine ⟨m, st, false, Ev.fn (fun k => slices_BinarySearchFunc_impl_Nest_impl_Nest_impl_Nest.f_eq k l n) (Ev.diag (m4 _ ?_)), ⟨fun h => (by cases h), fun ⟨h, _⟩ => absurd h q⟩⟩
    exact Ev.lp (fun K q => slices_BinarySearchFunc_impl_Nest_impl_Nest_impl_Nest.l8_eq K q l _ m m n.1 n.2.1) (Ev.no (by omega) (Ev.no (by omega) (Ev.now _)))
open Classical in
/-- the law's own way of adding -/
theorem with_add (n : T24) (hn : fitSh S24 n) (l : List T24) (hl : l.length ≤ 1000) (hf : ∀ e ∈ l, fitSh S24 e) {m : Nat} (st : Stands l n m) : ∀ (d i : Nat), m = i + d →
    Ev (fun K j => spec_l5With.l10 K j false l (l.length : Int) (i : Int) n.1 n.2.1 (l.take i)) (l.take m ++ n :: (l.drop m).filter fun e => decide (e ≠ n))
  | 0, i, h => by
    obtain rfl : m = i := by omega
    have e0 : (n.1, n.2.1, ()) = n := rfl
    by_cases hi : m < l.length
    · have hc := (spec_l5CmpNest.v_ev l[m] n (hf _ (List.getElem_mem hi)) hn).1
      have hge := st.ge m hi (Nat.le_refl _)
      rw [← cmpNest_key] at hge
      have htl : (l.take m).length = m := by rw [List.length_take]; omega
      refine Ev.lp (fun K j => spec_l5With.l10_eq K j false l _ m _ _ (l.take m)) (Ev.yes (by omega) (Ev.yes (by omega) ?_))
      rw [rd_at _ _ _ hi, wrap_nat (by omega), List.drop_eq_getElem_cons hi, List.filter_cons]
      refine hc.bind (Ev.yes (by omega) (Ev.no (by simp) (Ev.yes (most32 (by rw [htl]; simp; omega)) ?_)))
      by_cases q : l[m] = n
      · rw [if_neg (by simpa using q)]
        refine Ev.yes ((cmpNest_zero _ _).2 q) ?_
        have := with_drop n hn l hl hf (l.length - (m + 1)) (m + 1) (app (l.take m) [(n.1, n.2.1, ())]) (by omega) (by unfold app; rw [List.length_append, htl]; simp)
        rw [e0] at this
        unfold app at this
        rw [List.append_assoc] at this
        exact this
      · rw [if_pos (by simpa using q)]
        refine Ev.no (fun w => q ((cmpNest_zero _ _).1 w)) (Ev.yes (most32 (by unfold app; rw [List.length_append, htl]; simp; omega)) ?_)
        have := with_drop n hn l hl hf (l.length - (m + 1)) (m + 1) (app (app (l.take m) [(n.1, n.2.1, ())]) [l[m]]) (by omega) (by unfold app; rw [List.length_append, List.length_append, htl]; simp)
        have hh : app (app (l.take m) [(n.1, n.2.1, ())]) [l[m]] = l.take m ++ ([n] ++ [l[m]]) := by unfold app; rw [List.append_assoc]
        rw [hh] at this ⊢
        rw [List.append_assoc] at this
        exact this
    · have hm : m = l.length := by have := st.le; omega
      subst hm
      rw [List.drop_length, List.filter_nil, List.take_length]
      exact Ev.lp (fun K j => spec_l5With.l10_eq K j false l _ _ _ _ l) (Ev.no (by omega) (Ev.no (by simp) (Ev.yes (most32 (by simp; omega)) (Ev.some (by unfold app; rfl)))))
  | d + 1, i, h => by
    have hi : i < l.length := by have := st.le; omega
    have hc := (spec_l5CmpNest.v_ev l[i] n (hf _ (List.getElem_mem hi)) hn).1
    have hlt := st.lt i hi (by omega)
    rw [← cmpNest_key] at hlt
    have htl : (l.take i).length = i := by rw [List.length_take]; omega
    refine Ev.lp (fun K j => spec_l5With.l10_eq K j false l _ i _ _ (l.take i)) (Ev.yes (by omega) (Ev.yes (by omega) ?_))
    rw [rd_at _ _ _ hi, wrap_nat (by omega)]
    refine hc.bind (Ev.no (by omega) (Ev.no (by omega) (Ev.yes (most32 (by rw [htl]; simp; omega)) ?_)))
    have := with_add n hn l hl hf st d (i + 1) (by omega)
    rw [List.take_succ_eq_append_getElem hi] at this
    exact this
open Classical in
theorem added {l : List T24} (hg : spec_GoodNests.v l = true) {n : T24} {m : Nat} (st : Stands l n m) :
    (l.take m ++ n :: (l.drop m).filter fun e => decide (e ≠ n)) = if ∃ h : m < l.length, l[m] = n then l else insL l (m : Int) [n] := by
  have hs := ((nests_iff l).1 hg).2.2
  by_cases q : ∃ h : m < l.length, l[m] = n
  · rw [if_pos q]
    obtain ⟨h, q⟩ := q
    rw [List.drop_eq_getElem_cons h, List.filter_cons, if_neg (by simpa using q), List.filter_eq_self.2 fun e he => ?_]
    · conv => rhs; rw [← List.take_append_drop m l, List.drop_eq_getElem_cons h, q]
    · obtain ⟨j, hj, rfl⟩ := List.getElem_of_mem he
      rw [List.length_drop] at hj
      rw [List.getElem_drop]
      refine decide_eq_true (fun e => ?_)
      have := (List.pairwise_iff_getElem.1 hs) m (m + 1 + j) h (by omega) (by omega)
      rw [e, q, kc_zero.2 rfl] at this
      omega
  · rw [if_neg q, List.filter_eq_self.2 fun e he => ?_]
    · unfold insL
      simp
    · obtain ⟨j, hj, rfl⟩ := List.getElem_of_mem he
      rw [List.length_drop] at hj
      rw [List.getElem_drop]
      refine decide_eq_true (fun e => q ?_)
      by_cases hj0 : j = 0
      · subst hj0
        exact ⟨by omega, e⟩
      · have h1 := (List.pairwise_iff_getElem.1 hs) m (m + j) (by omega) (by omega) (by omega)
        rw [e] at h1
        exact absurd h1 (st.ge m (by omega) (Nat.le_refl _))
theorem toNest_ev (a : T24) (h : smSh S24 a) : Ev (fun K _ => laws_toNest.f K a) a := by
  obtain ⟨q0, q1, _⟩ := h
  exact Ev.fn (fun k => laws_toNest.f_eq k a) (Ev.now _)
theorem eqNest_ev (a : T24) (h : smSh S24 a) : Ev (fun K _ => laws_eqNest.f K a a) true := by
  obtain ⟨q0, q1, _⟩ := h
  exact Ev.fn (fun k => laws_eqNest.f_eq k a a) (Ev.yes rfl (Ev.yes rfl (Ev.now _)))
theorem szNest_ok (a : T24) (m : Int) (h0 : 0 ≤ m) (h1 : m ≤ 1048576) (hf : fitSh S24 a) : SzP (fun K _ => laws_szNest.f K a m) m (smSh S24 a) := by
  obtain ⟨q0, q1, _⟩ := hf
  refine SzP.fn (fun k => laws_szNest.f_eq k a m) ?_
  have b0 : a.1.size ≤ 140737488351232 := q0
  have w1 := wrap_id (x := m - (a.1.size : Int)) (by omega) (by omega)
  refine SzP.cut (by omega) fun c1 => ?_
  obtain ⟨m1, e1⟩ : ∃ z, z = wrap64 (m - (a.1.size : Int)) := ⟨_, rfl⟩
  simp only [← e1] at c1 w1 ⊢
  have b1 : a.2.1.size ≤ 140737488351232 := q1
  have w2 := wrap_id (x := m1 - (a.2.1.size : Int)) (by omega) (by omega)
  refine SzP.cut (by omega) fun c2 => ?_
  obtain ⟨m2, e2⟩ : ∃ z, z = wrap64 (m1 - (a.2.1.size : Int)) := ⟨_, rfl⟩
  simp only [← e2] at c2 w2 ⊢
  exact SzP.now (by omega) (by omega) ⟨(show a.1.size ≤ 1048576 by omega), (show a.2.1.size ≤ 1048576 by omega), trivial⟩
theorem toNestS_ev (l : List T24) (hl : smSh (.list S24) l) : Ev (fun K _ => laws_toNestS_m.f K l) (l, ()) := by
  obtain ⟨hn, hl⟩ := hl
  have hn : l.length ≤ 1048576 := hn
  refine Ev.fn (fun k => laws_toNestS_m.f_eq k l) (Ev.yes (by omega) (Ev.yes rfl (Ev.diag (copy_loopW (W := fun l => (l, ())) (L := fun K j i y => laws_toNestS_m.l8 K j l i y) (fun i h y hy r hr => ?_) (fun y => ?_) l.length 0 _ (by omega) (reps_length _ _) rfl))))
  · refine Ev.lp (fun K j => laws_toNestS_m.l8_eq K j l i y) (Ev.yes (by omega) ?_)
    rw [rd_at _ _ _ h, wrap_nat (by omega)]
    exact Ev.yes (by omega) ((toNest_ev l[i] (hl _ (List.getElem_mem h))).bind (Ev.yes (by omega) (Ev.slet hr)))
  · exact Ev.lp (fun K j => laws_toNestS_m.l8_eq K j l _ y) (Ev.no (by omega) (Ev.now _))
theorem markNestS_ok (l : List T24) (k : Int) (h0 : 0 ≤ k) (h1 : k + 2 * (l.length : Int) ≤ 4000000000000000000) : ∃ l', Ev (fun K _ => laws_markNestS_m.f K l k) (k + 2 * (l.length : Int), l', ()) ∧ Ev (fun K _ => laws_heldNestS.f K l' k) (k + 2 * (l.length : Int)) := by
  obtain ⟨y, a1, _, a3, a4⟩ := mark_loop (L := fun K j k i y => laws_markNestS_m.l6 K j k i y) (mk := fun k x => (mkT (k), mkT (k + 1), ())) (c := 2) (n := l.length) (fun i k y h hy h0 h1 r hr => by
    refine Ev.lp (fun K j => laws_markNestS_m.l6_eq K j k i y) (Ev.yes (by omega) ?_)
    simp only [wrap_id (x := k + 1) (by omega) (by omega), wrap_id (x := k + 1 + 1) (by omega) (by omega), wrap_nat (show i < 9000000000000000000 by omega)]
    refine (mkT_ev (by omega) (by omega)).bind ?_; refine Ev.yes (by omega) ?_; refine Ev.slet ?_; try simp only [put_put, rd_put _ y i _ h, rd_at _ y i h, put_length]
    refine (mkT_ev (by omega) (by omega)).bind ?_; refine Ev.yes (by omega) ?_; refine Ev.slet ?_; try simp only [put_put, rd_put _ y i _ h, rd_at _ y i h, put_length]
    rw [show k + 1 + 1 = k + ((2 : Nat) : Int) by omega]
    exact hr) (fun k y hy => Ev.lp (fun K j => laws_markNestS_m.l6_eq K j k _ y) (Ev.no (by omega) (Ev.now _))) l.length 0 k l rfl (by omega) h0 h1
  refine ⟨y, Ev.fn (fun q => laws_markNestS_m.f_eq q l k) (Ev.diag a4), ?_⟩
  have := held_loop (L := fun K j k i => laws_heldNestS.l6 K j y k i) (mk := fun k x => (mkT (k), mkT (k + 1), ())) (c := 2) (l := y) (fun i k h x hx h0 h1 r hr => by
    refine Ev.lp (fun K j => laws_heldNestS.l6_eq K j y k i) (Ev.yes (by omega) ?_)
    simp only [wrap_id (x := k + 1) (by omega) (by omega), wrap_id (x := k + 1 + 1) (by omega) (by omega), wrap_nat (show i < 9000000000000000000 by omega), rd_at _ y i h, hx]
    repeat (first | refine Ev.yes (by omega) ?_ | refine (mkT_ev (by omega) (by omega)).bind ?_ | refine Ev.yes rfl ?_ | refine Ev.yes trivial ?_ | refine Ev.no (by simp) ?_)
    rw [show k + 1 + 1 = k + ((2 : Nat) : Int) by omega]
    exact hr) (fun k => Ev.lp (fun K j => laws_heldNestS.l6_eq K j y k _) (Ev.no (by omega) (Ev.now _))) l.length 0 k (by omega) h0 h1 a3
  exact Ev.fn (fun q => laws_heldNestS.f_eq q y k) (Ev.diag this)
theorem eqNestS_ev (l : List T24) (hl : smSh (.list S24) l) : Ev (fun K _ => laws_eqNestS.f K l l) true := by
  obtain ⟨hn, hl⟩ := hl
  have hn : l.length ≤ 1048576 := hn
  refine Ev.fn (fun k => laws_eqNestS.f_eq k l l) (Ev.yes rfl (Ev.diag (true_loop (L := fun K j i => laws_eqNestS.l14 K j l l i) (n := l.length) (fun i h r hr => ?_) ?_ l.length 0 (by omega))))
  · refine Ev.lp (fun K j => laws_eqNestS.l14_eq K j l l i) (Ev.yes (by omega) (Ev.yes (by omega) (Ev.yes (by omega) ((eqNest_ev _ (by rw [rd_at _ _ _ h]; exact hl _ (List.getElem_mem h))).bind (Ev.yes rfl ?_)))))
    rw [wrap_nat (by omega)]; exact hr
  · exact Ev.lp (fun K j => laws_eqNestS.l14_eq K j l l _) (Ev.no (by omega) (Ev.now _))
theorem szNestS_ok (l : List T24) (m : Int) (h0 : 0 ≤ m) (h1 : m ≤ 1048576) (hf : fitSh (.list S24) l) : SzP (fun K _ => laws_szNestS.f K l m) m (smSh (.list S24) l) := by
  obtain ⟨hn, hf⟩ := hf
  have hn : l.length ≤ 140737488351232 := hn
  refine SzP.fn (fun k => laws_szNestS.f_eq k l m) ?_
  rw [wrap_id (x := m - (l.length : Int)) (by omega) (by omega)]
  refine SzP.cut (by omega) fun hc => ?_
  refine (SzP.loop (L := fun K j m i => laws_szNestS.l16 K j l m i) (sz_row (L := fun K j m i => laws_szNestS.l16 K j l m i) (l := l) (P := smSh S24) (fun i h m h0 h1 => ?_) (fun m => ?_) l.length 0 (m - l.length) (by omega) (by omega) (by omega)) fun p => ⟨show l.length ≤ 1048576 by omega, fun x hx => p x hx⟩).imp (by omega) fun p => p
  · obtain ⟨r, q, q1, q2, q3⟩ := szNest_ok l[i] m h0 h1 (hf _ (List.getElem_mem h))
    refine ⟨r, q1, q2, q3, fun hr => ?_, fun hr s hs => ?_⟩
    · refine Ev.lp (fun K j => laws_szNestS.l16_eq K j l m i) (Ev.yes (by omega) (Ev.yes (by omega) ?_))
      rw [rd_at _ _ _ h]; exact q.bind (Ev.yes hr (Ev.now _))
    · refine Ev.lp (fun K j => laws_szNestS.l16_eq K j l m i) (Ev.yes (by omega) (Ev.yes (by omega) ?_))
      rw [rd_at _ _ _ h, wrap_nat (by omega)]; exact q.bind (Ev.no (by omega) hs)
  · exact Ev.lp (fun K j => laws_szNestS.l16_eq K j l m _) (Ev.no (by omega) (Ev.now _))
theorem toReach_ev (a : T68) (h : smSh S68 a) : Ev (fun K _ => laws_toReach.f K a) a := by
  obtain ⟨q0, q1, q2, _⟩ := h
  exact Ev.fn (fun k => laws_toReach.f_eq k a) (Ev.now _)
theorem eqReach_ev (a : T68) (h : smSh S68 a) : Ev (fun K _ => laws_eqReach.f K a a) true := by
  obtain ⟨q0, q1, q2, _⟩ := h
  exact Ev.fn (fun k => laws_eqReach.f_eq k a a) (Ev.yes rfl (Ev.yes rfl (Ev.yes rfl (Ev.now _))))
theorem szReach_ok (a : T68) (m : Int) (h0 : 0 ≤ m) (h1 : m ≤ 1048576) (hf : fitSh S68 a) : SzP (fun K _ => laws_szReach.f K a m) m (smSh S68 a) := by
  obtain ⟨q0, q1, q2, _⟩ := hf
  refine SzP.fn (fun k => laws_szReach.f_eq k a m) ?_
  have b0 : a.1.size ≤ 140737488351232 := q0
  have w1 := wrap_id (x := m - (a.1.size : Int)) (by omega) (by omega)
  refine SzP.cut (by omega) fun c1 => ?_
  obtain ⟨m1, e1⟩ : ∃ z, z = wrap64 (m - (a.1.size : Int)) := ⟨_, rfl⟩
  simp only [← e1] at c1 w1 ⊢
  have b1 : a.2.1.size ≤ 140737488351232 := q1
  have w2 := wrap_id (x := m1 - (a.2.1.size : Int)) (by omega) (by omega)
  refine SzP.cut (by omega) fun c2 => ?_
  obtain ⟨m2, e2⟩ : ∃ z, z = wrap64 (m1 - (a.2.1.size : Int)) := ⟨_, rfl⟩
  simp only [← e2] at c2 w2 ⊢
  exact SzP.now (by omega) (by omega) ⟨(show a.1.size ≤ 1048576 by omega), (show a.2.1.size ≤ 1048576 by omega), q2, trivial⟩
theorem toReachS_ev (l : List T68) (hl : smSh (.list S68) l) : Ev (fun K _ => laws_toReachS_m.f K l) (l, ()) := by
  obtain ⟨hn, hl⟩ := hl
  have hn : l.length ≤ 1048576 := hn
  refine Ev.fn (fun k => laws_toReachS_m.f_eq k l) (Ev.yes (by omega) (Ev.yes rfl (Ev.diag (copy_loopW (W := fun l => (l, ())) (L := fun K j i y => laws_toReachS_m.l8 K j l i y) (fun i h y hy r hr => ?_) (fun y => ?_) l.length 0 _ (by omega) (reps_length _ _) rfl))))
  · refine Ev.lp (fun K j => laws_toReachS_m.l8_eq K j l i y) (Ev.yes (by omega) ?_)
    rw [rd_at _ _ _ h, wrap_nat (by omega)]
    exact Ev.yes (by omega) ((toReach_ev l[i] (hl _ (List.getElem_mem h))).bind (Ev.yes (by omega) (Ev.slet hr)))
  · exact Ev.lp (fun K j => laws_toReachS_m.l8_eq K j l _ y) (Ev.no (by omega) (Ev.now _))
theorem markReachS_ok (l : List T68) (k : Int) (h0 : 0 ≤ k) (h1 : k + 3 * (l.length : Int) ≤ 4000000000000000000) : ∃ l', Ev (fun K _ => laws_markReachS_m.f K l k) (k + 3 * (l.length : Int), l', ()) ∧ Ev (fun K _ => laws_heldReachS.f K l' k) (k + 3 * (l.length : Int)) := by
  obtain ⟨y, a1, _, a3, a4⟩ := mark_loop (L := fun K j k i y => laws_markReachS_m.l6 K j k i y) (mk := fun k x => (mkT (k), mkT (k + 1), k + 1 + 1, ())) (c := 3) (n := l.length) (fun i k y h hy h0 h1 r hr => by
    refine Ev.lp (fun K j => laws_markReachS_m.l6_eq K j k i y) (Ev.yes (by omega) ?_)
    simp only [wrap_id (x := k + 1) (by omega) (by omega), wrap_id (x := k + 1 + 1) (by omega) (by omega), wrap_id (x := k + 1 + 1 + 1) (by omega) (by omega), wrap_nat (show i < 9000000000000000000 by omega)]
    refine (mkT_ev (by omega) (by omega)).bind ?_; refine Ev.yes (by omega) ?_; refine Ev.slet ?_; try simp only [put_put, rd_put _ y i _ h, rd_at _ y i h, put_length]
    refine (mkT_ev (by omega) (by omega)).bind ?_; refine Ev.yes (by omega) ?_; refine Ev.slet ?_; try simp only [put_put, rd_put _ y i _ h, rd_at _ y i h, put_length]
    refine Ev.yes (by omega) ?_; refine Ev.slet ?_; try simp only [put_put, rd_put _ y i _ h, rd_at _ y i h, put_length]
    rw [show k + 1 + 1 + 1 = k + ((3 : Nat) : Int) by omega]
    exact hr) (fun k y hy => Ev.lp (fun K j => laws_markReachS_m.l6_eq K j k _ y) (Ev.no (by omega) (Ev.now _))) l.length 0 k l rfl (by omega) h0 h1
  refine ⟨y, Ev.fn (fun q => laws_markReachS_m.f_eq q l k) (Ev.diag a4), ?_⟩
  have := held_loop (L := fun K j k i => laws_heldReachS.l6 K j y k i) (mk := fun k x => (mkT (k), mkT (k + 1), k + 1 + 1, ())) (c := 3) (l := y) (fun i k h x hx h0 h1 r hr => by
    refine Ev.lp (fun K j => laws_heldReachS.l6_eq K j y k i) (Ev.yes (by omega) ?_)
    simp only [wrap_id (x := k + 1) (by omega) (by omega), wrap_id (x := k + 1 + 1) (by omega) (by omega), wrap_id (x := k + 1 + 1 + 1) (by omega) (by omega), wrap_nat (show i < 9000000000000000000 by omega), rd_at _ y i h, hx]
    repeat (first | refine Ev.yes (by omega) ?_ | refine (mkT_ev (by omega) (by omega)).bind ?_ | refine Ev.yes rfl ?_ | refine Ev.yes trivial ?_ | refine Ev.no (by simp) ?_)
    rw [show k + 1 + 1 + 1 = k + ((3 : Nat) : Int) by omega]
    exact hr) (fun k => Ev.lp (fun K j => laws_heldReachS.l6_eq K j y k _) (Ev.no (by omega) (Ev.now _))) l.length 0 k (by omega) h0 h1 a3
  exact Ev.fn (fun q => laws_heldReachS.f_eq q y k) (Ev.diag this)
theorem eqReachS_ev (l : List T68) (hl : smSh (.list S68) l) : Ev (fun K _ => laws_eqReachS.f K l l) true := by
  obtain ⟨hn, hl⟩ := hl
  have hn : l.length ≤ 1048576 := hn
  refine Ev.fn (fun k => laws_eqReachS.f_eq k l l) (Ev.yes rfl (Ev.diag (true_loop (L := fun K j i => laws_eqReachS.l14 K j l l i) (n := l.length) (fun i h r hr => ?_) ?_ l.length 0 (by omega))))
  · refine Ev.lp (fun K j => laws_eqReachS.l14_eq K j l l i) (Ev.yes (by omega) (Ev.yes (by omega) (Ev.yes (by omega) ((eqReach_ev _ (by rw [rd_at _ _ _ h]; exact hl _ (List.getElem_mem h))).bind (Ev.yes rfl ?_)))))
    rw [wrap_nat (by omega)]; exact hr
  · exact Ev.lp (fun K j => laws_eqReachS.l14_eq K j l l _) (Ev.no (by omega) (Ev.now _))
theorem szReachS_ok (l : List T68) (m : Int) (h0 : 0 ≤ m) (h1 : m ≤ 1048576) (hf : fitSh (.list S68) l) : SzP (fun K _ => laws_szReachS.f K l m) m (smSh (.list S68) l) := by
  obtain ⟨hn, hf⟩ := hf
  have hn : l.length ≤ 140737488351232 := hn
  refine SzP.fn (fun k => laws_szReachS.f_eq k l m) ?_
  rw [wrap_id (x := m - (l.length : Int)) (by omega) (by omega)]
  refine SzP.cut (by omega) fun hc => ?_
  refine (SzP.loop (L := fun K j m i => laws_szReachS.l16 K j l m i) (sz_row (L := fun K j m i => laws_szReachS.l16 K j l m i) (l := l) (P := smSh S68) (fun i h m h0 h1 => ?_) (fun m => ?_) l.length 0 (m - l.length) (by omega) (by omega) (by omega)) fun p => ⟨show l.length ≤ 1048576 by omega, fun x hx => p x hx⟩).imp (by omega) fun p => p
  · obtain ⟨r, q, q1, q2, q3⟩ := szReach_ok l[i] m h0 h1 (hf _ (List.getElem_mem h))
    refine ⟨r, q1, q2, q3, fun hr => ?_, fun hr s hs => ?_⟩
    · refine Ev.lp (fun K j => laws_szReachS.l16_eq K j l m i) (Ev.yes (by omega) (Ev.yes (by omega) ?_))
      rw [rd_at _ _ _ h]; exact q.bind (Ev.yes hr (Ev.now _))
    · refine Ev.lp (fun K j => laws_szReachS.l16_eq K j l m i) (Ev.yes (by omega) (Ev.yes (by omega) ?_))
      rw [rd_at _ _ _ h, wrap_nat (by omega)]; exact q.bind (Ev.no (by omega) hs)
  · exact Ev.lp (fun K j => laws_szReachS.l16_eq K j l m _) (Ev.no (by omega) (Ev.now _))

theorem insert_ev (l : List T24) (m : Nat) (n : T24) (hm : m ≤ l.length) (hl : l.length ≤ 1000) : Ev (fun K _ => slices_Insert_impl_Nest_impl_Nest_m.f K l (m : Int) [n]) (insL l (m : Int) [n], ()) := by
  refine Ev.fn (fun k => slices_Insert_impl_Nest_impl_Nest_m.f_eq k l m [n]) ?_
  have h1 : 0 ≤ (m : Int) ∧ (m : Int) ≤ (List.length l : Nat) ∧ 0 < [n].length ∧ l.length + [n].length ≤ 1000000 := ⟨by omega, by omega, by simp, by simp; omega⟩
  have e : insEqC S24 l (m : Int) [n] = some (insL l (m : Int) [n], ()) := (insEqC_eq S24 l (m : Int) [n]).trans (if_pos h1)
  exact ⟨0, fun _ _ _ _ => e⟩
theorem insL_mem {l : List T24} {m : Nat} {n e : T24} (h : e ∈ insL l (m : Int) [n]) : e = n ∨ e ∈ l := by
  unfold insL at h
  simp only [List.mem_append, List.mem_singleton] at h
  rcases h with (h | h) | h
  · exact .inr (List.mem_of_mem_take h)
  · exact .inl h
  · exact .inr (List.mem_of_mem_drop h)
theorem insL_length (l : List T24) (m : Nat) (n : T24) (hm : m ≤ l.length) : (insL l (m : Int) [n]).length = l.length + 1 := by
  unfold insL
  rw [Int.toNat_natCast, List.length_append, List.length_append, List.length_take, List.length_drop]
  simp; omega
theorem addNest_ev (g : List T24) (x : List T68) (n : T24) (hs : smSh (.list S24) g) (hf : fitSh (.list S24) g) (hn : fitSh S24 n) (hns : smSh S24 n) :
    ∃ w L, Ev (fun K _ => spec_AddNest.f K g x n) (w, L, ()) ∧ Ev (fun K _ => impl_AddNest_m.f K g x n) (w, L, ()) ∧ smSh (.list S24) w ∧ smSh (.list S68) L ∧ w.length ≤ 200 ∧ L.length ≤ 40000 := by
  have e1 := (spec_GoodNests.v_ev g hf).1
  have e2 := (impl_GoodNests.v_ev g hf).1
  rw [nests_same] at e2
  have c1 := (spec_l5Group.v_ev n.1 hn.1).1
  have c2 := (spec_GoodName.v_ev n.2.1 hn.2.1).1
  have c3 := (impl_ygoodNest.v_ev n hn).1
  have no : ∀ {P : Prop}, P → smSh (.list S24) [] ∧ smSh (.list S68) [] := fun _ => ⟨⟨Nat.zero_le _, fun x hx => by cases hx⟩, ⟨Nat.zero_le _, fun x hx => by cases hx⟩⟩
  by_cases h : spec_GoodNests.v g = true
  · by_cases a : groupName n.1 = true
    · by_cases b : goodName n.2.1 = true
      · have hg := nests_len h
        have i1 : ∀ (r : List T24 × List T68 × Unit), Ev (fun K _ => (slices_Clone_impl_Nest_impl_Nest_m.f K g).bind fun t2 => ((slices_BinarySearchFunc_impl_Nest_impl_Nest_impl_Nest.f K t2.1 n).bind fun t3 => (if t3.2.1 = true then ((impl_GoodNests.f K t2.1).bind fun t4 => (if t4 = true then ((impl_yreach_m.f K t2.1).bind fun t5 => (some (t2.1, t5))) else (some (([] : List T24), (([] : List T68), ()))))) else ((slices_Insert_impl_Nest_impl_Nest_m.f K t2.1 t3.1 [n]).bind fun t4 => ((impl_GoodNests.f K t4.1).bind fun t5 => (if t5 = true then ((impl_yreach_m.f K t4.1).bind fun t6 => (some (t4.1, t6))) else (some (([] : List T24), (([] : List T68), ()))))))))) r → Ev (fun K _ => impl_AddNest_m.f K g x n) r := fun r hr => by
          refine Ev.fn (fun k => impl_AddNest_m.f_eq k g x n) (e2.bind (Ev.yes h (c3.bind (Ev.yes ?_ hr))))
          unfold impl_ygoodNest.v; simp [impl_ygroupName.v, impl_GoodName.v, a, b]
        obtain ⟨m, st, bb, eb, hb⟩ := bsearch_ev h hf.2 hn
        have ew := with_add n hn g (by omega) (fun e he => hf.2 e he) st m 0 (by omega)
        rw [List.take_zero, added h st] at ew
        have ewith : Ev (fun K _ => spec_l5With.f K g n true) _ := Ev.fn (fun k => spec_l5With.f_eq k g n true) (Ev.diag ew)
        generalize hW : (if ∃ h : m < g.length, g[m] = n then g else insL g (m : Int) [n]) = W at ewith
        have hWm : ∀ e ∈ W, e = n ∨ e ∈ g := fun e he => by
          rw [← hW] at he
          split at he
          · exact .inr he
          · exact insL_mem he
        have hWl : W.length ≤ 201 := by
          rw [← hW]
          split
          · omega
          · rw [insL_length _ _ _ st.le]; omega
        have hWf : fitSh (.list S24) W := ⟨Nat.le_trans hWl (by omega), fun e he => by
          rcases hWm e he with rfl | z
          · exact hn
          · exact hf.2 e z⟩
        have hWs : ∀ e ∈ W, smSh S24 e := fun e he => by
          rcases hWm e he with rfl | z
          · exact hns
          · exact hs.2 e z
        have eg1 := (spec_GoodNests.v_ev W hWf).1
        have eg2 := (impl_GoodNests.v_ev W hWf).1
        rw [nests_same] at eg2
        by_cases hw : spec_GoodNests.v W = true
        · have hwl := nests_len hw
          have z1 : ∀ e ∈ W, e.1.size ≤ 140737488351232 := fun e he => by have : e.1.size ≤ 1048576 := (hWs e he).1; omega
          have z2 : ∀ e ∈ W, e.2.1.size ≤ 140737488351232 := fun e he => by have : e.2.1.size ≤ 1048576 := (hWs e he).2.1; omega
          obtain ⟨L, eL, hL⟩ := l5Reach_ev hwl z1 z2
          have ech : Ev (fun K _ => spec_l5Change.f K g n true) (W, L, ()) := by
            refine Ev.fn (fun k => spec_l5Change.f_eq k g n true) (e1.bind (Ev.yes h (c1.bind (Ev.yes a (c2.bind (Ev.yes b (ewith.bind ?_)))))))
            exact eg1.bind (Ev.yes hw (eL.bind (Ev.now _)))
          have ey := yreach_ev hwl hw z1 z2 hL
          have eim : Ev (fun K _ => impl_AddNest_m.f K g x n) (W, L, ()) := by
            refine i1 _ ((clone_ev g (by omega)).bind (eb.bind ?_))
            by_cases q : bb = true
            · have hW2 : W = g := by rw [← hW, if_pos (hb.1 q)]
              rw [hW2] at eg2 ey hw ⊢
              exact Ev.yes q (eg2.bind (Ev.yes hw (ey.bind (Ev.now _))))
            · have hW2 : insL g (m : Int) [n] = W := by rw [← hW, if_neg (fun z => q (hb.2 z))]
              have ei := insert_ev g m n st.le (by omega)
              rw [hW2] at ei
              exact Ev.no q (ei.bind (eg2.bind (Ev.yes hw (ey.bind (Ev.now _)))))
          refine ⟨W, L, Ev.fn (fun k => spec_AddNest.f_eq k g x n) ech.tail, eim, ⟨Nat.le_trans hwl (by omega), hWs⟩, ⟨Nat.le_trans hL.len (by omega), fun e he => ?_⟩, hwl, hL.len⟩
          obtain ⟨⟨d, hd, h1⟩, k, k1, k2, k3⟩ := (hL.mem e).1 he
          obtain ⟨d2, hd2, h2⟩ := firstAt_member k1 k2
          have := firstAt_le hwl k2
          refine ⟨?_, ?_, ?_, trivial⟩
          · show e.1.size ≤ _
            rw [← h1]; exact (hWs d hd).1
          · show e.2.1.size ≤ _
            rw [← h2]; exact (hWs d2 hd2).2.1
          · show fitSh (.int .i64) e.2.2.1
            rw [k3]; exact fit_len (by omega)
        · have ech : Ev (fun K _ => spec_l5Change.f K g n true) (([] : List T24), ([] : List T68), ()) := by
            refine Ev.fn (fun k => spec_l5Change.f_eq k g n true) (e1.bind (Ev.yes h (c1.bind (Ev.yes a (c2.bind (Ev.yes b (ewith.bind ?_)))))))
            exact eg1.bind (Ev.no hw (Ev.now _))
          have eim : Ev (fun K _ => impl_AddNest_m.f K g x n) (([] : List T24), ([] : List T68), ()) := by
            refine i1 _ ((clone_ev g (by omega)).bind (eb.bind ?_))
            by_cases q : bb = true
            · have hW2 : W = g := by rw [← hW, if_pos (hb.1 q)]
              rw [hW2] at hw
              exact absurd h hw
            · have hW2 : insL g (m : Int) [n] = W := by rw [← hW, if_neg (fun z => q (hb.2 z))]
              have ei := insert_ev g m n st.le (by omega)
              rw [hW2] at ei
              exact Ev.no q (ei.bind (eg2.bind (Ev.no hw (Ev.now _))))
          exact ⟨[], [], Ev.fn (fun k => spec_AddNest.f_eq k g x n) ech.tail, eim, (no h).1, (no h).2, by simp, by simp⟩
      · exact ⟨[], [], Ev.fn (fun k => spec_AddNest.f_eq k g x n) ((show Ev (fun K _ => spec_l5Change.f K g n true) (([] : List T24), ([] : List T68), ()) from Ev.fn (fun k => spec_l5Change.f_eq k g n true) (e1.bind (Ev.yes h (c1.bind (Ev.yes a (c2.bind (Ev.no b (Ev.now _)))))))).tail), Ev.fn (fun k => impl_AddNest_m.f_eq k g x n) (e2.bind (Ev.yes h (c3.bind (Ev.no (by unfold impl_ygoodNest.v; simp [impl_ygroupName.v, impl_GoodName.v, a, b]) (Ev.now _))))), (no h).1, (no h).2, by simp, by simp⟩
    · exact ⟨[], [], Ev.fn (fun k => spec_AddNest.f_eq k g x n) ((show Ev (fun K _ => spec_l5Change.f K g n true) (([] : List T24), ([] : List T68), ()) from Ev.fn (fun k => spec_l5Change.f_eq k g n true) (e1.bind (Ev.yes h (c1.bind (Ev.no a (Ev.now _)))))).tail), Ev.fn (fun k => impl_AddNest_m.f_eq k g x n) (e2.bind (Ev.yes h (c3.bind (Ev.no (by unfold impl_ygoodNest.v; simp [impl_ygroupName.v, a]) (Ev.now _))))), (no h).1, (no h).2, by simp, by simp⟩
  · exact ⟨[], [], Ev.fn (fun k => spec_AddNest.f_eq k g x n) ((show Ev (fun K _ => spec_l5Change.f K g n true) (([] : List T24), ([] : List T68), ()) from Ev.fn (fun k => spec_l5Change.f_eq k g n true) (e1.bind (Ev.no h (Ev.now _)))).tail), Ev.fn (fun k => impl_AddNest_m.f_eq k g x n) (e2.bind (Ev.no h (Ev.now _))), (no h).1, (no h).2, by simp, by simp⟩
theorem Pure.FnExactAddNest : laws_FnExactAddNest.Pure := by
  intro a0 a1 a2 f0 f1 f2
  apply Ev.rounds
  refine Ev.fn (fun k => laws_FnExactAddNest.f_eq k a0 a1 a2) ?_
  obtain ⟨z, e, _, _, hz⟩ := szNestS_ok a0 1048576 (by omega) (by omega) f0
  refine e.bind (Ev.ite (fun _ => Ev.now _) fun h3 => ?_)
  have s0 := hz (by omega)
  obtain ⟨z1, e1, _, _, hz1⟩ := szReachS_ok a1 z (by omega) (by omega) f1
  refine e1.bind (Ev.ite (fun _ => Ev.now _) fun h4 => ?_)
  have s1 := hz1 (by omega)
  obtain ⟨z2, e2, _, _, hz2⟩ := szNest_ok a2 z1 (by omega) (by omega) f2
  refine e2.bind (Ev.ite (fun _ => Ev.now _) fun h5 => ?_)
  have s2 := hz2 (by omega)
  obtain ⟨w, L, w1, w2, sw, sL, lw, lL⟩ := addNest_ev a0 a1 a2 s0 f0 f2 s2
  have T0 := toNestS_ev a0 s0
  have T1 := toReachS_ev a1 s1
  have T2 := toNest_ev a2 s2
  have q1 := eqNestS_ev w sw
  have q2 := eqReachS_ev L sL
  have hn : a0.length ≤ 1048576 := s0.1
  have hr : a1.length ≤ 1048576 := s1.1
  refine T0.bind (T1.bind (T2.bind (w1.bind (T0.bind (T1.bind (T2.bind (w2.bind (q1.bind (Ev.yes rfl (q2.bind (Ev.yes rfl ?_)))))))))))
  refine T0.bind ((eqNestS_ev a0 s0).bind (Ev.yes rfl (T1.bind ((eqReachS_ev a1 s1).bind (Ev.yes rfl ?_)))))
  obtain ⟨l1, m1, _⟩ := markNestS_ok a0 1 (by omega) (by omega)
  obtain ⟨l2, m2, _⟩ := markReachS_ok a1 (1 + 2 * (a0.length : Int)) (by omega) (by omega)
  obtain ⟨l3, m3, d3⟩ := markNestS_ok w 1 (by omega) (by omega)
  obtain ⟨l4, m4, d4⟩ := markReachS_ok L (1 + 2 * (w.length : Int)) (by omega) (by omega)
  refine m1.bind (m2.bind (Ev.no (by omega) (q1.bind (Ev.yes rfl (q2.bind (Ev.yes rfl ?_))))))
  refine m3.bind (m4.bind (d3.bind (Ev.no (by omega) (d4.bind (Ev.no (by omega) (Ev.yes rfl ?_))))))
  refine T0.bind (T1.bind (T2.bind (w2.bind (q1.bind (Ev.yes rfl (q2.bind (Ev.yes rfl ?_)))))))
  exact d3.bind (Ev.no (by omega) (d4.bind (Ev.no (by omega) (Ev.yes rfl (Ev.now _)))))

end Go.Proofs.Ytacfnpnaeiagnab.PA
