-- The plain law of this claim: no program in sight but the equations of its functions.
import Derived.Test.YtacfnpnaeiagnabFitFnExactSync
import Derived.Test.YtacfnpnaeiagnabDenP
namespace Go.Proofs.Ytacfnpnaeiagnab.PY
open Go Go.Den
open Go.RowKit (wrap64)
set_option linter.unusedVariables false
set_option linter.unusedSimpArgs false
set_option linter.unusedSectionVars false
set_option maxRecDepth 20000
/-! ### good names -/
def pDigit (a : Int) : Bool := decide (48 ≤ a ∧ a ≤ 57)
def pLetter (a : Int) : Bool := decide (97 ≤ a ∧ a ≤ 122 ∨ 65 ≤ a ∧ a ≤ 90)
def pWord (a : Int) : Bool := pLetter a || pDigit a || decide (a = 95)
def goodName (s : ByteArray) : Bool := decide (1 ≤ s.size ∧ s.size ≤ 30) && !pDigit (bt s 0) && (bytesOf s).all pWord
theorem spec_l1Digit_ev (a : Int) : Ev (fun K _ => spec_l1Digit.f K a) (pDigit a) := by
  refine Ev.fn (fun k => spec_l1Digit.f_eq k a) ?_
  unfold pDigit
  exact Ev.ite (fun _ => Ev.some (by (first | rfl | exact decide_eq_decide.2 (by omega) | exact (decide_eq_false (by omega)).symm | exact (decide_eq_true (by omega)).symm))) fun _ => Ev.some (by (first | rfl | exact decide_eq_decide.2 (by omega) | exact (decide_eq_false (by omega)).symm | exact (decide_eq_true (by omega)).symm))
theorem impl_ydigit_ev (a : Int) : Ev (fun K _ => impl_ydigit.f K a) (pDigit a) := by
  refine Ev.fn (fun k => impl_ydigit.f_eq k a) ?_
  unfold pDigit
  exact Ev.ite (fun _ => Ev.some (by (first | rfl | exact decide_eq_decide.2 (by omega) | exact (decide_eq_false (by omega)).symm | exact (decide_eq_true (by omega)).symm))) fun _ => Ev.some (by (first | rfl | exact decide_eq_decide.2 (by omega) | exact (decide_eq_false (by omega)).symm | exact (decide_eq_true (by omega)).symm))
theorem spec_l1Letter_ev (a : Int) : Ev (fun K _ => spec_l1Letter.f K a) (pLetter a) := by
  refine Ev.fn (fun k => spec_l1Letter.f_eq k a) ?_
  unfold pLetter
  exact Ev.ite (fun _ => Ev.ite (fun _ => Ev.some (by (first | rfl | exact decide_eq_decide.2 (by omega) | exact (decide_eq_false (by omega)).symm | exact (decide_eq_true (by omega)).symm))) fun _ => Ev.ite (fun _ => Ev.some (by (first | rfl | exact decide_eq_decide.2 (by omega) | exact (decide_eq_false (by omega)).symm | exact (decide_eq_true (by omega)).symm))) fun _ => Ev.some (by (first | rfl | exact decide_eq_decide.2 (by omega) | exact (decide_eq_false (by omega)).symm | exact (decide_eq_true (by omega)).symm))) fun _ => Ev.ite (fun _ => Ev.some (by (first | rfl | exact decide_eq_decide.2 (by omega) | exact (decide_eq_false (by omega)).symm | exact (decide_eq_true (by omega)).symm))) fun _ => Ev.some (by (first | rfl | exact decide_eq_decide.2 (by omega) | exact (decide_eq_false (by omega)).symm | exact (decide_eq_true (by omega)).symm))
theorem impl_yletter_ev (a : Int) : Ev (fun K _ => impl_yletter.f K a) (pLetter a) := by
  refine Ev.fn (fun k => impl_yletter.f_eq k a) ?_
  unfold pLetter
  exact Ev.ite (fun _ => Ev.ite (fun _ => Ev.some (by (first | rfl | exact decide_eq_decide.2 (by omega) | exact (decide_eq_false (by omega)).symm | exact (decide_eq_true (by omega)).symm))) fun _ => Ev.ite (fun _ => Ev.some (by (first | rfl | exact decide_eq_decide.2 (by omega) | exact (decide_eq_false (by omega)).symm | exact (decide_eq_true (by omega)).symm))) fun _ => Ev.some (by (first | rfl | exact decide_eq_decide.2 (by omega) | exact (decide_eq_false (by omega)).symm | exact (decide_eq_true (by omega)).symm))) fun _ => Ev.ite (fun _ => Ev.some (by (first | rfl | exact decide_eq_decide.2 (by omega) | exact (decide_eq_false (by omega)).symm | exact (decide_eq_true (by omega)).symm))) fun _ => Ev.some (by (first | rfl | exact decide_eq_decide.2 (by omega) | exact (decide_eq_false (by omega)).symm | exact (decide_eq_true (by omega)).symm))
theorem impl_ywordByte_ev (a : Int) : Ev (fun K _ => impl_ywordByte.f K a) (pWord a) := by
  refine Ev.fn (fun k => impl_ywordByte.f_eq k a) ?_
  unfold pWord
  exact (impl_yletter_ev a).bind (Ev.ite (fun h => Ev.some (by rw [h]; rfl)) fun h => (impl_ydigit_ev a).bind (Ev.ite (fun g => Ev.some (by rw [g]; simp)) fun g => Ev.some (by rw [Bool.eq_false_iff.2 h, Bool.eq_false_iff.2 g]; rfl)))
theorem spec_GoodName_ev (s : ByteArray) (hs : s.size ≤ 140737488351232) : Ev (fun K _ => spec_GoodName.f K s) (goodName s) := by
  refine Ev.fn (fun k => spec_GoodName.f_eq k s) ?_
  unfold goodName
  refine Ev.ite (fun h => Ev.some (by rw [decide_eq_false (by omega)]; rfl)) fun h => Ev.ite (fun h' => Ev.some (by rw [decide_eq_false (by omega)]; rfl)) fun h' => Ev.yes (by omega) ((spec_l1Digit_ev _).bind ?_)
  rw [decide_eq_true (by omega), Bool.true_and]
  refine Ev.ite (fun g => Ev.some (by rw [g]; rfl)) fun g => ?_
  rw [Bool.eq_false_iff.2 g, Bool.not_false, Bool.true_and]
  refine Ev.diag (loop_all (L := fun K j i => spec_GoodName.l14 K j s i) (fun i h hp r hr => ?_) (fun i h hp => ?_) ?_)
  · refine Ev.lp (fun K j => spec_GoodName.l14_eq K j s i) (Ev.yes (by omega) (Ev.yes (by omega) ((spec_l1Letter_ev _).bind ?_)))
    rw [wrap_nat (by omega)]
    refine Ev.ite (fun _ => hr) fun h1 => Ev.yes (by omega) ((spec_l1Digit_ev _).bind (Ev.ite (fun _ => hr) fun h2 => Ev.yes (by omega) (Ev.ite (fun _ => hr) fun h3 => ?_)))
    exfalso
    unfold pWord at hp
    simp [h1, h2, h3] at hp
  · refine Ev.lp (fun K j => spec_GoodName.l14_eq K j s i) (Ev.yes (by omega) (Ev.yes (by omega) ((spec_l1Letter_ev _).bind ?_)))
    unfold pWord at hp
    simp only [Bool.or_eq_false_iff, decide_eq_false_iff_not] at hp
    exact Ev.no (by simp [hp.1.1]) (Ev.yes (by omega) ((spec_l1Digit_ev _).bind (Ev.no (by simp [hp.1.2]) (Ev.yes (by omega) (Ev.no hp.2 (Ev.now _))))))
  · exact Ev.lp (fun K j => spec_GoodName.l14_eq K j s _) (Ev.no (by omega) (Ev.now _))
theorem impl_GoodName_ev (s : ByteArray) (hs : s.size ≤ 140737488351232) : Ev (fun K _ => impl_GoodName.f K s) (goodName s) := by
  refine Ev.fn (fun k => impl_GoodName.f_eq k s) ?_
  unfold goodName
  refine Ev.ite (fun h => Ev.some (by rw [size_nil] at h; rw [decide_eq_false (by omega)]; rfl)) fun h => Ev.ite (fun h' => Ev.some (by rw [decide_eq_false (by omega)]; rfl)) fun h' => ?_
  rw [size_nil] at h
  refine Ev.yes (by omega) ((impl_ydigit_ev _).bind ?_)
  rw [decide_eq_true (by omega), Bool.true_and]
  refine Ev.ite (fun g => Ev.some (by rw [g]; rfl)) fun g => ?_
  rw [Bool.eq_false_iff.2 g, Bool.not_false, Bool.true_and]
  refine Ev.diag (loop_all (L := fun K j i => impl_GoodName.l14 K j s (s.size : Int) i) (fun i h hp r hr => ?_) (fun i h hp => ?_) ?_)
  · refine Ev.lp (fun K j => impl_GoodName.l14_eq K j s _ i) (Ev.yes (by omega) (Ev.yes (by omega) ((impl_ywordByte_ev _).bind (Ev.yes hp ?_))))
    rw [wrap_nat (by omega)]; exact hr
  · exact Ev.lp (fun K j => impl_GoodName.l14_eq K j s _ i) (Ev.yes (by omega) (Ev.yes (by omega) ((impl_ywordByte_ev _).bind (Ev.no (by simp [hp]) (Ev.now _)))))
  · exact Ev.lp (fun K j => impl_GoodName.l14_eq K j s _ _) (Ev.no (by omega) (Ev.now _))

/-! ### values beside their measure -/
theorem wf_range {k : IntKind} {x : Int} (h : k.min ≤ x ∧ x ≤ k.max) : (Lit.int k x).wf = true := by
  simp [Lit.wf]; exact h
theorem fit_bool (b : Bool) : fitSh .bool b := trivial
theorem fit_unit : fitSh .unit () := trivial
theorem fit_pair {a b : Sh} {x : sem a} {y : sem b} (h : fitSh a x) (g : fitSh b y) : fitSh (.pair a b) (x, y) := ⟨h, g⟩
theorem fit_lst {t : Sh} {l : List (sem t)} (h : l.length ≤ 140737488351232) (g : allIn (α := sem t) l (fitSh t)) : fitSh (.list t) l := ⟨h, g⟩
theorem fit_dflt : ∀ s : Sh, fitSh s (dflt s)
  | .int k => by cases k <;> rfl
  | .bool => trivial
  | .str => by show (0 : Nat) ≤ _; omega
  | .unit => trivial
  | .pair a b => ⟨fit_dflt a, fit_dflt b⟩
  | .list t => ⟨Nat.zero_le _, fun x hx => by cases hx⟩
theorem fit_rd {t : Sh} {l : List (sem t)} (h : fitSh (.list t) l) (i : Int) : fitSh t (rd (dflt t) l i) := by
  unfold rd
  rw [List.getD_eq_getElem?_getD]
  cases hi : l[i.toNat]? with
  | none => exact fit_dflt t
  | some x => exact h.2 x (List.mem_of_getElem? hi)
theorem fit_cut {t : Sh} {l : List (sem t)} (h : fitSh (.list t) l) (a b : Int) : fitSh (.list t) (cut l a b) := by
  unfold cut
  refine ⟨?_, fun x hx => h.2 x (List.mem_of_mem_take (List.mem_of_mem_drop hx))⟩
  have h1 : l.length ≤ 140737488351232 := h.1
  show List.length _ ≤ _
  rw [List.length_drop, List.length_take]; omega
theorem fit_nil {t : Sh} : fitSh (.list t) ([] : List (sem t)) := ⟨Nat.zero_le _, fun x hx => by cases hx⟩
theorem fit_cons {t : Sh} {x : sem t} {l : List (sem t)} (hx : fitSh t x) (h : allIn (α := sem t) l (fitSh t)) : allIn (α := sem t) (x :: l) (fitSh t) := fun y hy => by
  rcases List.mem_cons.1 hy with rfl | hy
  · exact hx
  · exact h y hy
theorem fit_cutS {s : ByteArray} (h : fitSh .str s) (a b : Int) : fitSh .str (cutS s a b) := by
  have h : s.size ≤ 140737488351232 := h
  show (s.extract a.toNat b.toNat).size ≤ _
  rw [ByteArray.size_extract]; omega
theorem fit_len {n : Nat} (h : n ≤ 140737488351232) : fitSh (.int .i64) (n : Int) := wf_range (by simp only [IntKind.min, IntKind.max, IntKind.signed, IntKind.bits]; constructor <;> simp <;> omega)
theorem fit_wrap (x : Int) : fitSh (.int .i64) (wrap64 x) := wf_range (by simp only [IntKind.min, IntKind.max, IntKind.signed, IntKind.bits]; unfold wrap64; constructor <;> simp <;> omega)
theorem fit_i64 {x : Int} (h : -9223372036854775808 ≤ x ∧ x ≤ 9223372036854775807) : fitSh (.int .i64) x := wf_range (by simp only [IntKind.min, IntKind.max, IntKind.signed, IntKind.bits]; constructor <;> simp <;> omega)
theorem i64_of {x : Int} (h : fitSh (.int .i64) x) : -9223372036854775808 ≤ x ∧ x ≤ 9223372036854775807 := by
  have h : (Lit.int .i64 x).wf = true := h
  simp [Lit.wf, IntKind.min, IntKind.max, IntKind.signed, IntKind.bits] at h
  omega
theorem fit_bytes {s : ByteArray} (h : Nat.ble s.size 140737488351232 = true) : fitSh .str s := Nat.le_of_ble_eq_true h
theorem fit_u8 {x : Int} (h : 0 ≤ x ∧ x ≤ 255) : fitSh (.int .u8) x := wf_range (by simp only [IntKind.min, IntKind.max, IntKind.signed, IntKind.bits]; constructor <;> simp <;> omega)
theorem fit_bt (s : ByteArray) (i : Int) : fitSh (.int .u8) (bt s i) := fit_u8 (bt_range s i)
theorem fit_wfb {k : IntKind} {x : Int} (h : (Lit.int k x).wf = true) : fitSh (.int k) x := h
def EvF (s : Sh) (g : Nat → Nat → Option (sem s)) (r : sem s) : Prop := Ev g r ∧ fitSh s r
section
variable {s s' : Sh} {r : sem s}
theorem EvF.some {a : sem s} (h : a = r) (f : fitSh s r) : EvF s (fun _ _ => Option.some a) r := ⟨Ev.some h, f⟩
theorem EvF.now (f : fitSh s r) : EvF s (fun _ _ => Option.some r) r := ⟨Ev.now r, f⟩
theorem EvF.yes {c : Prop} {inst : Decidable c} {A B : Nat → Nat → Option (sem s)} (h : c) (k : EvF s A r) : EvF s (fun K j => @ite _ c inst (A K j) (B K j)) r := ⟨k.1.congr fun _ _ => if_pos h, k.2⟩
theorem EvF.no {c : Prop} {inst : Decidable c} {A B : Nat → Nat → Option (sem s)} (h : ¬ c) (k : EvF s B r) : EvF s (fun K j => @ite _ c inst (A K j) (B K j)) r := ⟨k.1.congr fun _ _ => if_neg h, k.2⟩
theorem EvF.ite {c : Prop} {inst : Decidable c} {A B : Nat → Nat → Option (sem s)} {x y : sem s} (h : c → EvF s A x) (k : ¬ c → EvF s B y) : EvF s (fun K j => @ite _ c inst (A K j) (B K j)) (@ite _ c inst x y) := by
  by_cases e : c
  · rw [if_pos e]; exact EvF.yes e (h e)
  · rw [if_neg e]; exact EvF.no e (k e)
theorem EvF.bind {g : Nat → Nat → Option (sem s')} {f : Nat → Nat → sem s' → Option (sem s)} {a : sem s'} (h : EvF s' g a) (k : fitSh s' a → EvF s (fun K j => f K j a) r) : EvF s (fun K j => (g K j).bind (f K j)) r :=
  ⟨h.1.bind (k h.2).1, (k h.2).2⟩
theorem EvF.fn {f B : Nat → Option (sem s)} (e : ∀ k, f (k + 1) = B k) (h : EvF s (fun K _ => B K) r) : EvF s (fun K _ => f K) r := ⟨Ev.fn e h.1, h.2⟩
theorem EvF.lp {L B : Nat → Nat → Option (sem s)} (e : ∀ K j, L K (j + 1) = B K j) (h : EvF s B r) : EvF s L r := ⟨Ev.lp e h.1, h.2⟩
theorem EvF.diag {L : Nat → Nat → Option (sem s)} (h : EvF s L r) : EvF s (fun K _ => L K K) r := ⟨Ev.diag h.1, h.2⟩
end
theorem drop_more {α : Type} {l : List α} {i : Nat} {x : α} {r : List α} (h : l.drop i = x :: r) : i < l.length ∧ l.drop (i + 1) = r ∧ ∀ z, rd z l (i : Int) = x := by
  have hi : i < l.length := by
    rcases Nat.lt_or_ge i l.length with q | q
    · exact q
    · rw [List.drop_eq_nil_of_le q] at h; cases h
  rw [List.drop_eq_getElem_cons hi] at h
  obtain ⟨h1, h2⟩ := List.cons.inj h
  exact ⟨hi, h2, fun z => by rw [rd_at z l i hi]; exact h1⟩
theorem drop_none {α : Type} {l : List α} {i : Nat} (h : l.drop i = []) : l.length ≤ i := by
  have := congrArg List.length h
  rw [List.length_drop] at this
  simp at this; omega
theorem bdrop_more {s : ByteArray} {i : Nat} {x : Int} {r : List Int} (h : (bytesOf s).drop i = x :: r) : i < s.size ∧ (bytesOf s).drop (i + 1) = r ∧ bt s (i : Int) = x := by
  have hi : i < s.size := by
    rcases Nat.lt_or_ge i s.size with q | q
    · exact q
    · rw [List.drop_eq_nil_of_le (by rw [bytesOf_length]; exact q)] at h; cases h
  rw [drop_bytes s i hi] at h
  obtain ⟨h1, h2⟩ := List.cons.inj h
  exact ⟨hi, h2, h1⟩
theorem bdrop_none {s : ByteArray} {i : Nat} (h : (bytesOf s).drop i = []) : s.size ≤ i := by
  have := congrArg List.length h
  rw [List.length_drop, bytesOf_length] at this
  simp at this; omega

abbrev spec_GoodName.v (s : ByteArray) : Bool := goodName s
theorem spec_GoodName.v_ev (s : ByteArray) (f : fitSh .str s) : EvF .bool (fun K _ => spec_GoodName.f K s) (spec_GoodName.v s) := ⟨spec_GoodName_ev s f, trivial⟩
abbrev impl_GoodName.v (s : ByteArray) : Bool := goodName s
theorem impl_GoodName.v_ev (s : ByteArray) (f : fitSh .str s) : EvF .bool (fun K _ => impl_GoodName.f K s) (impl_GoodName.v s) := ⟨impl_GoodName_ev s f, trivial⟩

/-! ### the order of texts -/
def cmpL : List Int → List Int → Int
  | [], [] => 0
  | [], _ :: _ => -1
  | _ :: _, [] => 1
  | a :: l, b :: m => if a = b then cmpL l m else if a < b then -1 else 1
def cmpT (s t : ByteArray) : Int := cmpL (bytesOf s) (bytesOf t)
theorem cmpL_refl : ∀ l : List Int, cmpL l l = 0
  | [] => rfl
  | a :: l => by unfold cmpL; rw [if_pos rfl]; exact cmpL_refl l
theorem cmpL_zero : ∀ {l m : List Int}, cmpL l m = 0 → l = m
  | [], [], _ => rfl
  | [], _ :: _, h => by simp [cmpL] at h
  | _ :: _, [], h => by simp [cmpL] at h
  | a :: l, b :: m, h => by
    unfold cmpL at h
    by_cases e : a = b
    · rw [if_pos e] at h
      rw [e, cmpL_zero h]
    · rw [if_neg e] at h
      split at h <;> omega
theorem cmpL_anti : ∀ (l m : List Int), cmpL m l = - cmpL l m
  | [], [] => rfl
  | [], _ :: _ => rfl
  | _ :: _, [] => rfl
  | a :: l, b :: m => by
    unfold cmpL
    by_cases e : a = b
    · rw [if_pos e, if_pos e.symm]; exact cmpL_anti l m
    · rw [if_neg e, if_neg (Ne.symm e)]
      by_cases h : a < b
      · rw [if_pos h, if_neg (by omega)]; rfl
      · rw [if_neg h, if_pos (by omega)]
theorem cmpL_range (l m : List Int) : cmpL l m = -1 ∨ cmpL l m = 0 ∨ cmpL l m = 1 := by
  induction l generalizing m with
  | nil => cases m <;> simp [cmpL]
  | cons a l ih =>
    cases m with
    | nil => simp [cmpL]
    | cons b m =>
      unfold cmpL
      by_cases e : a = b
      · rw [if_pos e]; exact ih m
      · rw [if_neg e]; split <;> simp
theorem bytesOf_inj {s t : ByteArray} (h : bytesOf s = bytesOf t) : s = t := by
  have e : s.data.toList = t.data.toList := by
    unfold bytesOf at h
    have inj : ∀ (l m : List UInt8), l.map (fun b => (b.toNat : Int)) = m.map (fun b => (b.toNat : Int)) → l = m := by
      intro l
      induction l with
      | nil => intro m h; cases m with
        | nil => rfl
        | cons b m => simp at h
      | cons a l ih => intro m h; cases m with
        | nil => simp at h
        | cons b m =>
          simp only [List.map_cons, List.cons.injEq] at h
          obtain ⟨h1, h2⟩ := h
          have h3 : a.toNat = b.toNat := by omega
          rw [ih m h2, UInt8.toNat_inj.1 h3]
    exact inj _ _ h
  cases s; cases t
  simp only [ByteArray.mk.injEq]
  exact Array.ext' e
theorem cmpT_zero {s t : ByteArray} : cmpT s t = 0 ↔ s = t :=
  ⟨fun h => bytesOf_inj (cmpL_zero h), fun h => by rw [h]; exact cmpL_refl _⟩
theorem cmpT_range (s t : ByteArray) : cmpT s t = -1 ∨ cmpT s t = 0 ∨ cmpT s t = 1 := cmpL_range _ _
theorem bytesLess_iff (s t : ByteArray) : Op.bytesLess s.toList t.toList = true ↔ cmpT s t = -1 := by
  rw [ByteArray.toList_eq, ByteArray.toList_eq]
  unfold cmpT bytesOf
  generalize s.data.toList = l
  generalize t.data.toList = m
  induction l generalizing m with
  | nil => cases m <;> simp [Op.bytesLess, cmpL]
  | cons a l ih =>
    cases m with
    | nil => simp [Op.bytesLess, cmpL]
    | cons b m =>
      simp only [List.map_cons]
      unfold cmpL Op.bytesLess
      by_cases e : a = b
      · subst e
        rw [if_pos rfl, ← ih m]
        simp
      · have hne : (a.toNat : Int) ≠ b.toNat := fun h => e (UInt8.toNat_inj.1 (by omega))
        rw [if_neg hne]
        by_cases h : a < b
        · have : (a.toNat : Int) < b.toNat := by have := UInt8.lt_iff_toNat_lt.1 h; omega
          rw [if_pos this]; simp [h]
        · have h' : ¬ (a.toNat : Int) < b.toNat := fun q => h (UInt8.lt_iff_toNat_lt.2 (by omega))
          rw [if_neg h']; simp [h, e]

/-! ### printed texts -/
def printed (s : ByteArray) : Bool := (bytesOf s).all fun b => decide (32 ≤ b ∧ b ≤ 126)
theorem spec_l1Printed_ev (s : ByteArray) (hs : s.size ≤ 140737488351232) : Ev (fun K _ => spec_l1Printed.f K s) (printed s) := by
  refine Ev.fn (fun k => spec_l1Printed.f_eq k s) (Ev.diag (loop_all (L := fun K j i => spec_l1Printed.l6 K j s i) (fun i h hp r hr => ?_) (fun i h hp => ?_) ?_))
  · have hp := of_decide_eq_true hp
    refine Ev.lp (fun K j => spec_l1Printed.l6_eq K j s i) (Ev.yes (by omega) (Ev.yes (by omega) (Ev.no (by omega) (Ev.yes (by omega) (Ev.no (by omega) ?_)))))
    rw [wrap_nat (by omega)]; exact hr
  · have hp := of_decide_eq_false hp
    exact Ev.lp (fun K j => spec_l1Printed.l6_eq K j s i) (Ev.yes (by omega) (Ev.yes (by omega) (Ev.ite (fun _ => Ev.now _) fun _ => Ev.yes (by omega) (Ev.yes (by omega) (Ev.now _)))))
  · exact Ev.lp (fun K j => spec_l1Printed.l6_eq K j s _) (Ev.no (by omega) (Ev.now _))
theorem impl_yprinted_ev (s : ByteArray) (lo hi : Int) (hs : s.size ≤ 140737488351232) : Ev (fun K _ => impl_yprinted.f K s lo hi) (decide (lo ≤ s.size ∧ (s.size : Int) ≤ hi) && printed s) := by
  refine Ev.fn (fun k => impl_yprinted.f_eq k s lo hi) (Ev.ite (fun h => Ev.some (by rw [decide_eq_false (by omega)]; rfl)) fun h => Ev.ite (fun h' => Ev.some (by rw [decide_eq_false (by omega)]; rfl)) fun h' => ?_)
  rw [decide_eq_true (by omega), Bool.true_and]
  refine Ev.diag (loop_all (L := fun K j i => impl_yprinted.l14 K j s _ i) (fun i h hp r hr => ?_) (fun i h hp => ?_) ?_)
  · have hp := of_decide_eq_true hp
    refine Ev.lp (fun K j => impl_yprinted.l14_eq K j s _ i) (Ev.yes (by omega) (Ev.yes (by omega) (Ev.no (by omega) (Ev.yes (by omega) (Ev.no (by omega) ?_)))))
    rw [wrap_nat (by omega)]; exact hr
  · have hp := of_decide_eq_false hp
    exact Ev.lp (fun K j => impl_yprinted.l14_eq K j s _ i) (Ev.yes (by omega) (Ev.yes (by omega) (Ev.ite (fun _ => Ev.now _) fun _ => Ev.yes (by omega) (Ev.yes (by omega) (Ev.now _)))))
  · exact Ev.lp (fun K j => impl_yprinted.l14_eq K j s _ _) (Ev.no (by omega) (Ev.now _))

abbrev spec_l1Printed.v (s : ByteArray) : Bool := printed s
theorem spec_l1Printed.v_ev (s : ByteArray) (f : fitSh .str s) : EvF .bool (fun K _ => spec_l1Printed.f K s) (spec_l1Printed.v s) := ⟨spec_l1Printed_ev s f, trivial⟩
abbrev impl_yprinted.v (s : ByteArray) (lo hi : Int) : Bool := decide (lo ≤ s.size ∧ (s.size : Int) ≤ hi) && printed s
theorem impl_yprinted.v_ev (s : ByteArray) (lo hi : Int) (f : fitSh .str s) (_ : fitSh (.int .i64) lo) (_ : fitSh (.int .i64) hi) : EvF .bool (fun K _ => impl_yprinted.f K s lo hi) (impl_yprinted.v s lo hi) := ⟨impl_yprinted_ev s lo hi f, trivial⟩

/-! ### a byte in a text -/
def hasB (s : ByteArray) (c : Int) : Bool := (bytesOf s).any (· == c)
theorem idxB_range (s : ByteArray) (c : Int) : -1 ≤ idxB s c ∧ idxB s c < (s.size : Int) ∨ idxB s c = -1 := by
  unfold idxB
  have : ∀ (l : List UInt8) (c : UInt8), Go.Lib.indexByte l c = -1 ∨ (0 ≤ Go.Lib.indexByte l c ∧ Go.Lib.indexByte l c < (l.length : Int)) := by
    intro l c
    induction l with
    | nil => exact .inl rfl
    | cons b l ih =>
      unfold Go.Lib.indexByte
      split
      · right; simp
      · split
        · exact .inl rfl
        · rename_i h
          right
          rcases ih with ih | ih
          · rw [ih] at h; simp at h
          · rw [List.length_cons]; omega
  rcases this s.data.toList c.toNat.toUInt8 with h | h
  · exact .inr h
  · left; refine ⟨by omega, ?_⟩
    have e : s.data.toList.length = s.size := rfl
    rw [← e]; exact h.2
theorem idxB_has (s : ByteArray) (c : Int) (h0 : 0 ≤ c) (h1 : c ≤ 255) : decide (idxB s c ≥ 0) = hasB s c := by
  unfold idxB hasB bytesOf
  have hc : ∀ b : UInt8, (b == c.toNat.toUInt8) = ((b.toNat : Int) == c) := fun b => by
    rw [Bool.eq_iff_iff, beq_iff_eq, beq_iff_eq]
    constructor
    · rintro rfl
      have : c.toNat.toUInt8.toNat = c.toNat := by simp; omega
      rw [this]; omega
    · intro h
      have : c.toNat = b.toNat := by omega
      rw [this]; simp
  generalize s.data.toList = l
  induction l with
  | nil => rfl
  | cons b l ih =>
    unfold Go.Lib.indexByte
    rw [List.map_cons, List.any_cons, hc b]
    cases hb : ((b.toNat : Int) == c) with
    | true => simp
    | false =>
      rw [Bool.false_or, ← ih]
      simp only [Bool.false_eq_true, if_false]
      have hr : Go.Lib.indexByte l c.toNat.toUInt8 = -1 ∨ 0 ≤ Go.Lib.indexByte l c.toNat.toUInt8 := by
        clear ih hb
        induction l with
        | nil => exact .inl rfl
        | cons b l ih =>
          unfold Go.Lib.indexByte
          split
          · right; omega
          · split
            · exact .inl rfl
            · rename_i h
              rcases ih with ih | ih
              · rw [ih] at h; simp at h
              · right; omega
      rcases hr with hr | hr
      · rw [hr]; rfl
      · have : (Go.Lib.indexByte l c.toNat.toUInt8 == -1) = false := by rw [beq_eq_false_iff_ne]; omega
        rw [this]
        simp only [Bool.false_eq_true, if_false]
        rw [decide_eq_true (by omega), decide_eq_true (by omega)]

abbrev strings_Contains.v (s t : ByteArray) : Bool := hasB s (bt t 0)
theorem strings_Contains.v_ev (s t : ByteArray) (f : fitSh .str s) (g : fitSh .str t) (hp : t.size = 1) : EvF .bool (fun K _ => strings_Contains.f K s t) (strings_Contains.v s t) := by
  refine ⟨?_, trivial⟩
  have hr := bt_range t 0
  have hb : Ev (fun K _ => internal_stringslite_IndexByte.f K s (bt t 0)) (idxB s (bt t 0)) := Ev.fn (fun k => internal_stringslite_IndexByte.f_eq k s (bt t 0)) (Ev.now _)
  by_cases e : t.toList = s.toList
  · have e2 : t = s := bytesOf_inj (by
      have e1 : t.data.toList = s.data.toList := by rw [← ByteArray.toList_eq, ← ByteArray.toList_eq, e]
      unfold bytesOf; rw [e1])
    subst e2
    have hv : hasB t (bt t 0) = true := by
      unfold hasB
      rw [List.any_eq_true]
      refine ⟨bt t ((0 : Nat) : Int), ?_, by simp⟩
      rw [bt_nat t 0 (by omega)]
      exact List.getElem_mem _
    have : Ev (fun K _ => internal_stringslite_Index.f K t t) 0 := Ev.fn (fun k => internal_stringslite_Index.f_eq k t t) (Ev.no (by omega) (Ev.yes rfl (Ev.now _)))
    refine Ev.fn (fun k => strings_Contains.f_eq k t t) ((Ev.fn (fun k => strings_Index.f_eq k t t) (this.bind (Ev.now _))).bind (Ev.some ?_))
    rw [show strings_Contains.v t t = true from hv]; rfl
  · have : Ev (fun K _ => internal_stringslite_Index.f K s t) (idxB s (bt t 0)) := Ev.fn (fun k => internal_stringslite_Index.f_eq k s t) (Ev.no (by omega) (Ev.no e (Ev.yes (by omega) (Ev.yes (by omega) (hb.bind (Ev.now _))))))
    exact Ev.fn (fun k => strings_Contains.f_eq k s t) ((Ev.fn (fun k => strings_Index.f_eq k s t) (this.bind (Ev.now _))).bind (Ev.some (idxB_has s _ hr.1 hr.2)))
abbrev spec_l4Tilde.v (s : ByteArray) : Bool := hasB s 126
theorem tilde_loop (s : ByteArray) (hs : s.size ≤ 140737488351232) : ∀ (d i : Nat), s.size = i + d → Ev (fun K j => spec_l4Tilde.l6 K j s (i : Int)) (((bytesOf s).drop i).any (· == 126))
  | 0, i, h => by
    obtain rfl : i = s.size := by omega
    rw [List.drop_eq_nil_of_le (by rw [bytesOf_length]; exact Nat.le_refl _)]
    exact Ev.lp (fun K j => spec_l4Tilde.l6_eq K j s _) (Ev.no (by omega) (Ev.now _))
  | d + 1, i, h => by
    rw [drop_bytes s i (by omega), List.any_cons]
    refine Ev.lp (fun K j => spec_l4Tilde.l6_eq K j s i) (Ev.yes (by omega) (Ev.yes (by omega) (Ev.ite (fun e => Ev.some ?_) fun e => ?_)))
    · rw [beq_iff_eq.2 e]; rfl
    · rw [beq_eq_false_iff_ne.2 e, Bool.false_or, wrap_nat (by omega)]
      exact tilde_loop s hs d (i + 1) (by omega)
theorem spec_l4Tilde.v_ev (s : ByteArray) (f : fitSh .str s) : EvF .bool (fun K _ => spec_l4Tilde.f K s) (spec_l4Tilde.v s) :=
  ⟨Ev.fn (fun k => spec_l4Tilde.f_eq k s) (Ev.diag (tilde_loop s f s.size 0 (by omega))), trivial⟩
def spec_GoodChange.v (a0 : T89) : Bool :=
  (if (a0.1.1 : Int) < 1 then false else (if (a0.1.1 : Int) > 1000000000 then false else (if (a0.1.2.1 : Int) < 0 then false else (if (a0.1.2.1 : Int) > 99 then false else (if (a0.2.2.1 : Int) < 1 then false else (if (a0.2.2.1 : Int) > 1000 then false else (if (a0.2.2.2.1 : Int) = 0 then (if a0.2.2.2.2.2.1.toList = (⟨#[]⟩ : ByteArray).toList then (if (a0.2.1 : Int) = 1 then (if a0.2.2.2.2.2.2.1.toList = (⟨#[]⟩ : ByteArray).toList then (if (a0.2.2.2.1 : Int) ≥ 0 then (if (a0.2.2.2.1 : Int) ≤ 1000 then (let t0 := spec_GoodName.v a0.2.2.2.2.1.1; (if t0 = true then (if ((a0.2.2.2.2.1.2.1.size : Int) : Int) ≥ 1 then (if ((a0.2.2.2.2.1.2.1.size : Int) : Int) ≤ 50 then (let t1 := spec_l1Printed.v a0.2.2.2.2.1.2.1; (if t1 = true then (let t2 := spec_l4Tilde.v a0.2.2.2.2.1.2.1; (!t2)) else false)) else false) else false) else false)) else false) else false) else false) else (if (a0.2.1 : Int) = 2 then (if (a0.2.1 : Int) = 2 then (if (eqD S24 (a0.2.2.2.2.1 : T24) (((⟨#[]⟩ : ByteArray), ((⟨#[]⟩ : ByteArray), ())) : T24)) = true then (let t0 := spec_GoodName.v a0.2.2.2.2.2.1; (if t0 = true then (if ((a0.2.2.2.2.2.2.1.size : Int) : Int) ≥ 1 then (if ((a0.2.2.2.2.2.2.1.size : Int) : Int) ≤ 200 then (spec_l1Printed.v a0.2.2.2.2.2.2.1) else false) else false) else false)) else false) else (if (a0.2.1 : Int) = 4 then (if (eqD S24 (a0.2.2.2.2.1 : T24) (((⟨#[]⟩ : ByteArray), ((⟨#[]⟩ : ByteArray), ())) : T24)) = true then (decide (a0.2.2.2.2.2.2.1.toList = (⟨#[]⟩ : ByteArray).toList)) else false) else false)) else (if (a0.2.1 : Int) = 3 then (if (eqD S24 (a0.2.2.2.2.1 : T24) (((⟨#[]⟩ : ByteArray), ((⟨#[]⟩ : ByteArray), ())) : T24)) = true then (let t0 := spec_GoodName.v a0.2.2.2.2.2.1; (if t0 = true then (if ((a0.2.2.2.2.2.2.1.size : Int) : Int) ≥ 1 then (if ((a0.2.2.2.2.2.2.1.size : Int) : Int) ≤ 200 then (spec_l1Printed.v a0.2.2.2.2.2.2.1) else false) else false) else false)) else false) else (if (a0.2.1 : Int) = 4 then (if (eqD S24 (a0.2.2.2.2.1 : T24) (((⟨#[]⟩ : ByteArray), ((⟨#[]⟩ : ByteArray), ())) : T24)) = true then (decide (a0.2.2.2.2.2.2.1.toList = (⟨#[]⟩ : ByteArray).toList)) else false) else false)))) else (if (a0.2.1 : Int) = 1 then false else (if (a0.2.1 : Int) = 2 then (if (a0.2.1 : Int) = 2 then (if (eqD S24 (a0.2.2.2.2.1 : T24) (((⟨#[]⟩ : ByteArray), ((⟨#[]⟩ : ByteArray), ())) : T24)) = true then (let t0 := spec_GoodName.v a0.2.2.2.2.2.1; (if t0 = true then (if ((a0.2.2.2.2.2.2.1.size : Int) : Int) ≥ 1 then (if ((a0.2.2.2.2.2.2.1.size : Int) : Int) ≤ 200 then (spec_l1Printed.v a0.2.2.2.2.2.2.1) else false) else false) else false)) else false) else (if (a0.2.1 : Int) = 4 then (if (eqD S24 (a0.2.2.2.2.1 : T24) (((⟨#[]⟩ : ByteArray), ((⟨#[]⟩ : ByteArray), ())) : T24)) = true then false else false) else false)) else (if (a0.2.1 : Int) = 3 then (if (eqD S24 (a0.2.2.2.2.1 : T24) (((⟨#[]⟩ : ByteArray), ((⟨#[]⟩ : ByteArray), ())) : T24)) = true then (let t0 := spec_GoodName.v a0.2.2.2.2.2.1; (if t0 = true then (if ((a0.2.2.2.2.2.2.1.size : Int) : Int) ≥ 1 then (if ((a0.2.2.2.2.2.2.1.size : Int) : Int) ≤ 200 then (spec_l1Printed.v a0.2.2.2.2.2.2.1) else false) else false) else false)) else false) else (if (a0.2.1 : Int) = 4 then (if (eqD S24 (a0.2.2.2.2.1 : T24) (((⟨#[]⟩ : ByteArray), ((⟨#[]⟩ : ByteArray), ())) : T24)) = true then false else false) else false))))) else (if a0.2.2.2.2.2.1.toList = (⟨#[]⟩ : ByteArray).toList then (if (a0.2.1 : Int) = 1 then (if a0.2.2.2.2.2.2.1.toList = (⟨#[]⟩ : ByteArray).toList then (if (a0.2.2.2.1 : Int) ≥ 0 then (if (a0.2.2.2.1 : Int) ≤ 1000 then (let t0 := spec_GoodName.v a0.2.2.2.2.1.1; (if t0 = true then (if ((a0.2.2.2.2.1.2.1.size : Int) : Int) ≥ 1 then (if ((a0.2.2.2.2.1.2.1.size : Int) : Int) ≤ 50 then (let t1 := spec_l1Printed.v a0.2.2.2.2.1.2.1; (if t1 = true then (let t2 := spec_l4Tilde.v a0.2.2.2.2.1.2.1; (!t2)) else false)) else false) else false) else false)) else false) else false) else false) else (if (a0.2.1 : Int) = 2 then (if (a0.2.1 : Int) = 2 then false else (if (a0.2.1 : Int) = 4 then false else false)) else (if (a0.2.1 : Int) = 3 then false else (if (a0.2.1 : Int) = 4 then false else false)))) else (if (a0.2.1 : Int) = 1 then false else (if (a0.2.1 : Int) = 2 then (if (a0.2.1 : Int) = 2 then false else (if (a0.2.1 : Int) = 4 then false else false)) else (if (a0.2.1 : Int) = 3 then false else (if (a0.2.1 : Int) = 4 then false else false))))))))))))
theorem spec_GoodChange.v_ev (a0 : T89) (f_a0 : fitSh S89 a0) : EvF .bool (fun K _ => spec_GoodChange.f K a0) (spec_GoodChange.v a0) := by
  unfold spec_GoodChange.v
  exact EvF.fn (fun k => spec_GoodChange.f_eq k a0) (EvF.ite (fun h0 => (EvF.now (fit_bool _))) fun h0 => (EvF.ite (fun h1 => (EvF.now (fit_bool _))) fun h1 => (EvF.ite (fun h2 => (EvF.now (fit_bool _))) fun h2 => (EvF.ite (fun h3 => (EvF.now (fit_bool _))) fun h3 => (EvF.ite (fun h4 => (EvF.now (fit_bool _))) fun h4 => (EvF.ite (fun h5 => (EvF.now (fit_bool _))) fun h5 => (EvF.ite (fun h6 => (EvF.ite (fun h7 => (EvF.ite (fun h8 => (EvF.ite (fun h9 => (EvF.ite (fun h10 => (EvF.ite (fun h11 => (EvF.bind (spec_GoodName.v_ev _ (f_a0.2.2.2.2.1.1)) fun f_t0 => (EvF.ite (fun h12 => (EvF.ite (fun h13 => (EvF.ite (fun h14 => (EvF.bind (spec_l1Printed.v_ev _ (f_a0.2.2.2.2.1.2.1)) fun f_t1 => (EvF.ite (fun h15 => (EvF.bind (spec_l4Tilde.v_ev _ (f_a0.2.2.2.2.1.2.1)) fun f_t2 => (EvF.now (fit_bool _)))) fun h15 => (EvF.now (fit_bool _))))) fun h14 => (EvF.now (fit_bool _)))) fun h13 => (EvF.now (fit_bool _)))) fun h12 => (EvF.now (fit_bool _))))) fun h11 => (EvF.now (fit_bool _)))) fun h10 => (EvF.now (fit_bool _)))) fun h9 => (EvF.now (fit_bool _)))) fun h8 => (EvF.ite (fun h9 => (EvF.ite (fun h10 => (EvF.ite (fun h11 => (EvF.bind (spec_GoodName.v_ev _ (f_a0.2.2.2.2.2.1)) fun f_t0 => (EvF.ite (fun h12 => (EvF.ite (fun h13 => (EvF.ite (fun h14 => (EvF.bind (spec_l1Printed.v_ev _ (f_a0.2.2.2.2.2.2.1)) fun f_t1 => (EvF.now (fit_bool _)))) fun h14 => (EvF.now (fit_bool _)))) fun h13 => (EvF.now (fit_bool _)))) fun h12 => (EvF.now (fit_bool _))))) fun h11 => (EvF.now (fit_bool _)))) fun h10 => (EvF.ite (fun h11 => (EvF.ite (fun h12 => (EvF.now (fit_bool _))) fun h12 => (EvF.now (fit_bool _)))) fun h11 => (EvF.now (fit_bool _))))) fun h9 => (EvF.ite (fun h10 => (EvF.ite (fun h11 => (EvF.bind (spec_GoodName.v_ev _ (f_a0.2.2.2.2.2.1)) fun f_t0 => (EvF.ite (fun h12 => (EvF.ite (fun h13 => (EvF.ite (fun h14 => (EvF.bind (spec_l1Printed.v_ev _ (f_a0.2.2.2.2.2.2.1)) fun f_t1 => (EvF.now (fit_bool _)))) fun h14 => (EvF.now (fit_bool _)))) fun h13 => (EvF.now (fit_bool _)))) fun h12 => (EvF.now (fit_bool _))))) fun h11 => (EvF.now (fit_bool _)))) fun h10 => (EvF.ite (fun h11 => (EvF.ite (fun h12 => (EvF.now (fit_bool _))) fun h12 => (EvF.now (fit_bool _)))) fun h11 => (EvF.now (fit_bool _))))))) fun h7 => (EvF.ite (fun h8 => (EvF.now (fit_bool _))) fun h8 => (EvF.ite (fun h9 => (EvF.ite (fun h10 => (EvF.ite (fun h11 => (EvF.bind (spec_GoodName.v_ev _ (f_a0.2.2.2.2.2.1)) fun f_t0 => (EvF.ite (fun h12 => (EvF.ite (fun h13 => (EvF.ite (fun h14 => (EvF.bind (spec_l1Printed.v_ev _ (f_a0.2.2.2.2.2.2.1)) fun f_t1 => (EvF.now (fit_bool _)))) fun h14 => (EvF.now (fit_bool _)))) fun h13 => (EvF.now (fit_bool _)))) fun h12 => (EvF.now (fit_bool _))))) fun h11 => (EvF.now (fit_bool _)))) fun h10 => (EvF.ite (fun h11 => (EvF.ite (fun h12 => (EvF.now (fit_bool _))) fun h12 => (EvF.now (fit_bool _)))) fun h11 => (EvF.now (fit_bool _))))) fun h9 => (EvF.ite (fun h10 => (EvF.ite (fun h11 => (EvF.bind (spec_GoodName.v_ev _ (f_a0.2.2.2.2.2.1)) fun f_t0 => (EvF.ite (fun h12 => (EvF.ite (fun h13 => (EvF.ite (fun h14 => (EvF.bind (spec_l1Printed.v_ev _ (f_a0.2.2.2.2.2.2.1)) fun f_t1 => (EvF.now (fit_bool _)))) fun h14 => (EvF.now (fit_bool _)))) fun h13 => (EvF.now (fit_bool _)))) fun h12 => (EvF.now (fit_bool _))))) fun h11 => (EvF.now (fit_bool _)))) fun h10 => (EvF.ite (fun h11 => (EvF.ite (fun h12 => (EvF.now (fit_bool _))) fun h12 => (EvF.now (fit_bool _)))) fun h11 => (EvF.now (fit_bool _)))))))) fun h6 => (EvF.ite (fun h7 => (EvF.ite (fun h8 => (EvF.ite (fun h9 => (EvF.ite (fun h10 => (EvF.ite (fun h11 => (EvF.bind (spec_GoodName.v_ev _ (f_a0.2.2.2.2.1.1)) fun f_t0 => (EvF.ite (fun h12 => (EvF.ite (fun h13 => (EvF.ite (fun h14 => (EvF.bind (spec_l1Printed.v_ev _ (f_a0.2.2.2.2.1.2.1)) fun f_t1 => (EvF.ite (fun h15 => (EvF.bind (spec_l4Tilde.v_ev _ (f_a0.2.2.2.2.1.2.1)) fun f_t2 => (EvF.now (fit_bool _)))) fun h15 => (EvF.now (fit_bool _))))) fun h14 => (EvF.now (fit_bool _)))) fun h13 => (EvF.now (fit_bool _)))) fun h12 => (EvF.now (fit_bool _))))) fun h11 => (EvF.now (fit_bool _)))) fun h10 => (EvF.now (fit_bool _)))) fun h9 => (EvF.now (fit_bool _)))) fun h8 => (EvF.ite (fun h9 => (EvF.ite (fun h10 => (EvF.now (fit_bool _))) fun h10 => (EvF.ite (fun h11 => (EvF.now (fit_bool _))) fun h11 => (EvF.now (fit_bool _))))) fun h9 => (EvF.ite (fun h10 => (EvF.now (fit_bool _))) fun h10 => (EvF.ite (fun h11 => (EvF.now (fit_bool _))) fun h11 => (EvF.now (fit_bool _))))))) fun h7 => (EvF.ite (fun h8 => (EvF.now (fit_bool _))) fun h8 => (EvF.ite (fun h9 => (EvF.ite (fun h10 => (EvF.now (fit_bool _))) fun h10 => (EvF.ite (fun h11 => (EvF.now (fit_bool _))) fun h11 => (EvF.now (fit_bool _))))) fun h9 => (EvF.ite (fun h10 => (EvF.now (fit_bool _))) fun h10 => (EvF.ite (fun h11 => (EvF.now (fit_bool _))) fun h11 => (EvF.now (fit_bool _))))))))))))))
def spec_l1CmpNum.v (a0 : Int) (a1 : Int) : Int :=
  (if (a0 : Int) < a1 then (-1) else (if (a0 : Int) > a1 then 1 else 0))
theorem spec_l1CmpNum.v_ev (a0 : Int) (a1 : Int) (f_a0 : fitSh (.int .i64) a0) (f_a1 : fitSh (.int .i64) a1) : EvF (.int .i64) (fun K _ => spec_l1CmpNum.f K a0 a1) (spec_l1CmpNum.v a0 a1) := by
  unfold spec_l1CmpNum.v
  exact EvF.fn (fun k => spec_l1CmpNum.f_eq k a0 a1) (EvF.ite (fun h0 => (EvF.now ((fit_wfb rfl)))) fun h0 => (EvF.ite (fun h1 => (EvF.now ((fit_wfb rfl)))) fun h1 => (EvF.now ((fit_wfb rfl)))))
def spec_l4Cmp.v (a0 : T85) (a1 : T85) : Int :=
  (let t0 := spec_l1CmpNum.v a0.1 a1.1; (if (t0 : Int) = 0 then (spec_l1CmpNum.v a0.2.1 a1.2.1) else t0))
theorem spec_l4Cmp.v_ev (a0 : T85) (a1 : T85) (f_a0 : fitSh S85 a0) (f_a1 : fitSh S85 a1) : EvF (.int .i64) (fun K _ => spec_l4Cmp.f K a0 a1) (spec_l4Cmp.v a0 a1) := by
  unfold spec_l4Cmp.v
  exact EvF.fn (fun k => spec_l4Cmp.f_eq k a0 a1) (EvF.bind (spec_l1CmpNum.v_ev _ _ (f_a0.1) (f_a1.1)) fun f_t0 => (EvF.ite (fun h0 => (EvF.bind (spec_l1CmpNum.v_ev _ _ (f_a0.2.1) (f_a1.2.1)) fun f_t1 => (EvF.now (f_t1)))) fun h0 => (EvF.now (f_t0))))
def spec_GoodLog.l14.v (x8 : (List T89))  : List T89 → Nat → Bool
  | [], i => true
  | e :: rest, i => (let t0 := spec_GoodChange.v e; (if t0 = true then (if ((i : Int) : Int) > 0 then (let t1 := spec_l4Cmp.v (rd Z89 x8 (wrap64 ((i : Int) - 1))).1 e.1; (if (t1 : Int) ≥ 0 then false else (spec_GoodLog.l14.v x8 rest (i + 1)))) else (spec_GoodLog.l14.v x8 rest (i + 1))) else false))
theorem spec_GoodLog.l14.v_ev (x8 : (List T89)) (f_x8 : fitSh (.list S89) x8)  : ∀ (rest : List T89) (i : Nat)  , x8.drop i = rest → EvF .bool (fun K j => spec_GoodLog.l14 K j x8 x8 (x8.length : Int) (i : Int)) (spec_GoodLog.l14.v x8 rest i ) := by
  have bX : x8.length ≤ 140737488351232 := f_x8.1
  intro rest
  induction rest with
  | nil =>
    intro i hd
    have hz := drop_none hd
    unfold spec_GoodLog.l14.v
    exact EvF.lp (fun K j => spec_GoodLog.l14_eq K j x8 x8 (x8.length : Int) (i : Int)) (EvF.no (by omega) (EvF.now (fit_bool _)))
  | cons e rest ih =>
    intro i hd
    obtain ⟨hlt, hd2, hx⟩ := drop_more hd
    have f_e : fitSh S89 e := hx (dflt S89) ▸ fit_rd f_x8 _
    have f_i : fitSh (.int .i64) (i : Int) := fit_len (by omega)
    unfold spec_GoodLog.l14.v
    refine EvF.lp (fun K j => spec_GoodLog.l14_eq K j x8 x8 (x8.length : Int) (i : Int)) (EvF.yes (by omega) ?_)
    try rw [hx]
    try rw [wrap_nat (i := i) (by omega)]
    exact (EvF.yes (by first | omega | (simp only [wrap64] at *; omega)) (EvF.bind (spec_GoodChange.v_ev _ (f_e)) fun f_t0 => (EvF.ite (fun h0 => (EvF.ite (fun h1 => (EvF.yes (by first | omega | (simp only [wrap64] at *; omega)) (EvF.bind (spec_l4Cmp.v_ev _ _ (((fit_rd (f_x8) _)).1) (f_e.1)) fun f_t1 => (EvF.ite (fun h2 => (EvF.now (fit_bool _))) fun h2 => (ih (i + 1)   hd2))))) fun h1 => (ih (i + 1)   hd2))) fun h0 => (EvF.now (fit_bool _)))))
def spec_GoodLog.v (a0 : (List T89)) : Bool :=
  (if ((a0.length : Int) : Int) > 200 then false else (spec_GoodLog.l14.v a0 a0 0))
theorem spec_GoodLog.v_ev (a0 : (List T89)) (f_a0 : fitSh (.list S89) a0) : EvF .bool (fun K _ => spec_GoodLog.f K a0) (spec_GoodLog.v a0) := by
  unfold spec_GoodLog.v
  exact EvF.fn (fun k => spec_GoodLog.f_eq k a0) (EvF.ite (fun h0 => (EvF.now (fit_bool _))) fun h0 => (EvF.diag (spec_GoodLog.l14.v_ev a0 (f_a0)  _ 0    rfl)))

def impl_ygoodPart.v (a0 : T24) (a1 : Int) : Bool :=
  (let t0 := impl_GoodName.v a0.1; (if t0 = true then (impl_yprinted.v a0.2.1 1 a1) else false))
theorem impl_ygoodPart.v_ev (a0 : T24) (a1 : Int) (f_a0 : fitSh S24 a0) (f_a1 : fitSh (.int .i64) a1) : EvF .bool (fun K _ => impl_ygoodPart.f K a0 a1) (impl_ygoodPart.v a0 a1) := by
  unfold impl_ygoodPart.v
  exact EvF.fn (fun k => impl_ygoodPart.f_eq k a0 a1) (EvF.bind (impl_GoodName.v_ev _ (f_a0.1)) fun f_t0 => (EvF.ite (fun h0 => (EvF.bind (impl_yprinted.v_ev _ _ _ (f_a0.2.1) ((fit_wfb rfl)) (f_a1)) fun f_t1 => (EvF.now (fit_bool _)))) fun h0 => (EvF.now (fit_bool _))))
def impl_GoodChange.v (a0 : T89) : Bool :=
  (if (a0.1.1 : Int) < 1 then false else (if (a0.1.1 : Int) > 1000000000 then false else (if (a0.1.2.1 : Int) < 0 then false else (if (a0.1.2.1 : Int) > 99 then false else (if (a0.2.2.1 : Int) < 1 then false else (if (a0.2.2.1 : Int) > 1000 then false else (if (a0.2.2.2.1 : Int) = 0 then (if a0.2.2.2.2.2.1.toList = (⟨#[]⟩ : ByteArray).toList then (if (a0.2.1 : Int) = 1 then (if a0.2.2.2.2.2.2.1.toList = (⟨#[]⟩ : ByteArray).toList then (if (a0.2.2.2.1 : Int) ≥ 0 then (if (a0.2.2.2.1 : Int) ≤ 1000 then (let t0 := impl_ygoodPart.v a0.2.2.2.2.1 50; (if t0 = true then (let t1 := strings_Contains.v a0.2.2.2.2.1.2.1 (⟨#[126]⟩ : ByteArray); (!t1)) else false)) else false) else false) else false) else (if (a0.2.1 : Int) = 2 then (if (a0.2.1 : Int) = 2 then (if (eqD S24 (a0.2.2.2.2.1 : T24) (((⟨#[]⟩ : ByteArray), ((⟨#[]⟩ : ByteArray), ())) : T24)) = true then (let t0 := impl_GoodName.v a0.2.2.2.2.2.1; (if t0 = true then (impl_yprinted.v a0.2.2.2.2.2.2.1 1 200) else false)) else false) else (if (a0.2.1 : Int) = 4 then (if (eqD S24 (a0.2.2.2.2.1 : T24) (((⟨#[]⟩ : ByteArray), ((⟨#[]⟩ : ByteArray), ())) : T24)) = true then (decide (a0.2.2.2.2.2.2.1.toList = (⟨#[]⟩ : ByteArray).toList)) else false) else false)) else (if (a0.2.1 : Int) = 3 then (if (eqD S24 (a0.2.2.2.2.1 : T24) (((⟨#[]⟩ : ByteArray), ((⟨#[]⟩ : ByteArray), ())) : T24)) = true then (let t0 := impl_GoodName.v a0.2.2.2.2.2.1; (if t0 = true then (impl_yprinted.v a0.2.2.2.2.2.2.1 1 200) else false)) else false) else (if (a0.2.1 : Int) = 4 then (if (eqD S24 (a0.2.2.2.2.1 : T24) (((⟨#[]⟩ : ByteArray), ((⟨#[]⟩ : ByteArray), ())) : T24)) = true then (decide (a0.2.2.2.2.2.2.1.toList = (⟨#[]⟩ : ByteArray).toList)) else false) else false)))) else (if (a0.2.1 : Int) = 1 then false else (if (a0.2.1 : Int) = 2 then (if (a0.2.1 : Int) = 2 then (if (eqD S24 (a0.2.2.2.2.1 : T24) (((⟨#[]⟩ : ByteArray), ((⟨#[]⟩ : ByteArray), ())) : T24)) = true then (let t0 := impl_GoodName.v a0.2.2.2.2.2.1; (if t0 = true then (impl_yprinted.v a0.2.2.2.2.2.2.1 1 200) else false)) else false) else (if (a0.2.1 : Int) = 4 then (if (eqD S24 (a0.2.2.2.2.1 : T24) (((⟨#[]⟩ : ByteArray), ((⟨#[]⟩ : ByteArray), ())) : T24)) = true then false else false) else false)) else (if (a0.2.1 : Int) = 3 then (if (eqD S24 (a0.2.2.2.2.1 : T24) (((⟨#[]⟩ : ByteArray), ((⟨#[]⟩ : ByteArray), ())) : T24)) = true then (let t0 := impl_GoodName.v a0.2.2.2.2.2.1; (if t0 = true then (impl_yprinted.v a0.2.2.2.2.2.2.1 1 200) else false)) else false) else (if (a0.2.1 : Int) = 4 then (if (eqD S24 (a0.2.2.2.2.1 : T24) (((⟨#[]⟩ : ByteArray), ((⟨#[]⟩ : ByteArray), ())) : T24)) = true then false else false) else false))))) else (if a0.2.2.2.2.2.1.toList = (⟨#[]⟩ : ByteArray).toList then (if (a0.2.1 : Int) = 1 then (if a0.2.2.2.2.2.2.1.toList = (⟨#[]⟩ : ByteArray).toList then (if (a0.2.2.2.1 : Int) ≥ 0 then (if (a0.2.2.2.1 : Int) ≤ 1000 then (let t0 := impl_ygoodPart.v a0.2.2.2.2.1 50; (if t0 = true then (let t1 := strings_Contains.v a0.2.2.2.2.1.2.1 (⟨#[126]⟩ : ByteArray); (!t1)) else false)) else false) else false) else false) else (if (a0.2.1 : Int) = 2 then (if (a0.2.1 : Int) = 2 then false else (if (a0.2.1 : Int) = 4 then false else false)) else (if (a0.2.1 : Int) = 3 then false else (if (a0.2.1 : Int) = 4 then false else false)))) else (if (a0.2.1 : Int) = 1 then false else (if (a0.2.1 : Int) = 2 then (if (a0.2.1 : Int) = 2 then false else (if (a0.2.1 : Int) = 4 then false else false)) else (if (a0.2.1 : Int) = 3 then false else (if (a0.2.1 : Int) = 4 then false else false))))))))))))
theorem impl_GoodChange.v_ev (a0 : T89) (f_a0 : fitSh S89 a0) : EvF .bool (fun K _ => impl_GoodChange.f K a0) (impl_GoodChange.v a0) := by
  unfold impl_GoodChange.v
  exact EvF.fn (fun k => impl_GoodChange.f_eq k a0) (EvF.ite (fun h0 => (EvF.now (fit_bool _))) fun h0 => (EvF.ite (fun h1 => (EvF.now (fit_bool _))) fun h1 => (EvF.ite (fun h2 => (EvF.now (fit_bool _))) fun h2 => (EvF.ite (fun h3 => (EvF.now (fit_bool _))) fun h3 => (EvF.ite (fun h4 => (EvF.now (fit_bool _))) fun h4 => (EvF.ite (fun h5 => (EvF.now (fit_bool _))) fun h5 => (EvF.ite (fun h6 => (EvF.ite (fun h7 => (EvF.ite (fun h8 => (EvF.ite (fun h9 => (EvF.ite (fun h10 => (EvF.ite (fun h11 => (EvF.bind (impl_ygoodPart.v_ev _ _ (f_a0.2.2.2.2.1) ((fit_wfb rfl))) fun f_t0 => (EvF.ite (fun h12 => (EvF.bind (strings_Contains.v_ev _ _ (f_a0.2.2.2.2.1.2.1) ((fit_bytes rfl)) (by first | assumption | omega | rfl)) fun f_t1 => (EvF.now (fit_bool _)))) fun h12 => (EvF.now (fit_bool _))))) fun h11 => (EvF.now (fit_bool _)))) fun h10 => (EvF.now (fit_bool _)))) fun h9 => (EvF.now (fit_bool _)))) fun h8 => (EvF.ite (fun h9 => (EvF.ite (fun h10 => (EvF.ite (fun h11 => (EvF.bind (impl_GoodName.v_ev _ (f_a0.2.2.2.2.2.1)) fun f_t0 => (EvF.ite (fun h12 => (EvF.bind (impl_yprinted.v_ev _ _ _ (f_a0.2.2.2.2.2.2.1) ((fit_wfb rfl)) ((fit_wfb rfl))) fun f_t1 => (EvF.now (fit_bool _)))) fun h12 => (EvF.now (fit_bool _))))) fun h11 => (EvF.now (fit_bool _)))) fun h10 => (EvF.ite (fun h11 => (EvF.ite (fun h12 => (EvF.now (fit_bool _))) fun h12 => (EvF.now (fit_bool _)))) fun h11 => (EvF.now (fit_bool _))))) fun h9 => (EvF.ite (fun h10 => (EvF.ite (fun h11 => (EvF.bind (impl_GoodName.v_ev _ (f_a0.2.2.2.2.2.1)) fun f_t0 => (EvF.ite (fun h12 => (EvF.bind (impl_yprinted.v_ev _ _ _ (f_a0.2.2.2.2.2.2.1) ((fit_wfb rfl)) ((fit_wfb rfl))) fun f_t1 => (EvF.now (fit_bool _)))) fun h12 => (EvF.now (fit_bool _))))) fun h11 => (EvF.now (fit_bool _)))) fun h10 => (EvF.ite (fun h11 => (EvF.ite (fun h12 => (EvF.now (fit_bool _))) fun h12 => (EvF.now (fit_bool _)))) fun h11 => (EvF.now (fit_bool _))))))) fun h7 => (EvF.ite (fun h8 => (EvF.now (fit_bool _))) fun h8 => (EvF.ite (fun h9 => (EvF.ite (fun h10 => (EvF.ite (fun h11 => (EvF.bind (impl_GoodName.v_ev _ (f_a0.2.2.2.2.2.1)) fun f_t0 => (EvF.ite (fun h12 => (EvF.bind (impl_yprinted.v_ev _ _ _ (f_a0.2.2.2.2.2.2.1) ((fit_wfb rfl)) ((fit_wfb rfl))) fun f_t1 => (EvF.now (fit_bool _)))) fun h12 => (EvF.now (fit_bool _))))) fun h11 => (EvF.now (fit_bool _)))) fun h10 => (EvF.ite (fun h11 => (EvF.ite (fun h12 => (EvF.now (fit_bool _))) fun h12 => (EvF.now (fit_bool _)))) fun h11 => (EvF.now (fit_bool _))))) fun h9 => (EvF.ite (fun h10 => (EvF.ite (fun h11 => (EvF.bind (impl_GoodName.v_ev _ (f_a0.2.2.2.2.2.1)) fun f_t0 => (EvF.ite (fun h12 => (EvF.bind (impl_yprinted.v_ev _ _ _ (f_a0.2.2.2.2.2.2.1) ((fit_wfb rfl)) ((fit_wfb rfl))) fun f_t1 => (EvF.now (fit_bool _)))) fun h12 => (EvF.now (fit_bool _))))) fun h11 => (EvF.now (fit_bool _)))) fun h10 => (EvF.ite (fun h11 => (EvF.ite (fun h12 => (EvF.now (fit_bool _))) fun h12 => (EvF.now (fit_bool _)))) fun h11 => (EvF.now (fit_bool _)))))))) fun h6 => (EvF.ite (fun h7 => (EvF.ite (fun h8 => (EvF.ite (fun h9 => (EvF.ite (fun h10 => (EvF.ite (fun h11 => (EvF.bind (impl_ygoodPart.v_ev _ _ (f_a0.2.2.2.2.1) ((fit_wfb rfl))) fun f_t0 => (EvF.ite (fun h12 => (EvF.bind (strings_Contains.v_ev _ _ (f_a0.2.2.2.2.1.2.1) ((fit_bytes rfl)) (by first | assumption | omega | rfl)) fun f_t1 => (EvF.now (fit_bool _)))) fun h12 => (EvF.now (fit_bool _))))) fun h11 => (EvF.now (fit_bool _)))) fun h10 => (EvF.now (fit_bool _)))) fun h9 => (EvF.now (fit_bool _)))) fun h8 => (EvF.ite (fun h9 => (EvF.ite (fun h10 => (EvF.now (fit_bool _))) fun h10 => (EvF.ite (fun h11 => (EvF.now (fit_bool _))) fun h11 => (EvF.now (fit_bool _))))) fun h9 => (EvF.ite (fun h10 => (EvF.now (fit_bool _))) fun h10 => (EvF.ite (fun h11 => (EvF.now (fit_bool _))) fun h11 => (EvF.now (fit_bool _))))))) fun h7 => (EvF.ite (fun h8 => (EvF.now (fit_bool _))) fun h8 => (EvF.ite (fun h9 => (EvF.ite (fun h10 => (EvF.now (fit_bool _))) fun h10 => (EvF.ite (fun h11 => (EvF.now (fit_bool _))) fun h11 => (EvF.now (fit_bool _))))) fun h9 => (EvF.ite (fun h10 => (EvF.now (fit_bool _))) fun h10 => (EvF.ite (fun h11 => (EvF.now (fit_bool _))) fun h11 => (EvF.now (fit_bool _))))))))))))))
def cmp_isNaN_int.v (a0 : Int) : Bool :=
  (!(decide ((a0 : Int) = a0)))
theorem cmp_isNaN_int.v_ev (a0 : Int) (f_a0 : fitSh (.int .i64) a0) : EvF .bool (fun K _ => cmp_isNaN_int.f K a0) (cmp_isNaN_int.v a0) := by
  unfold cmp_isNaN_int.v
  exact EvF.fn (fun k => cmp_isNaN_int.f_eq k a0) (EvF.now (fit_bool _))
def cmp_Compare_int.v (a0 : Int) (a1 : Int) : Int :=
  (let t0 := cmp_isNaN_int.v a0; (let t1 := cmp_isNaN_int.v a1; (if t0 = true then (if t1 = true then 0 else (-1)) else (if t1 = true then 1 else (if (a0 : Int) < a1 then (-1) else (if (a0 : Int) > a1 then 1 else 0))))))
theorem cmp_Compare_int.v_ev (a0 : Int) (a1 : Int) (f_a0 : fitSh (.int .i64) a0) (f_a1 : fitSh (.int .i64) a1) : EvF (.int .i64) (fun K _ => cmp_Compare_int.f K a0 a1) (cmp_Compare_int.v a0 a1) := by
  unfold cmp_Compare_int.v
  exact EvF.fn (fun k => cmp_Compare_int.f_eq k a0 a1) (EvF.bind (cmp_isNaN_int.v_ev _ (f_a0)) fun f_t0 => (EvF.bind (cmp_isNaN_int.v_ev _ (f_a1)) fun f_t1 => (EvF.ite (fun h0 => (EvF.ite (fun h1 => (EvF.now ((fit_wfb rfl)))) fun h1 => (EvF.now ((fit_wfb rfl))))) fun h0 => (EvF.ite (fun h1 => (EvF.now ((fit_wfb rfl)))) fun h1 => (EvF.ite (fun h2 => (EvF.now ((fit_wfb rfl)))) fun h2 => (EvF.ite (fun h3 => (EvF.now ((fit_wfb rfl)))) fun h3 => (EvF.now ((fit_wfb rfl)))))))))
def cmp_Or_int.l8.v (x3 : Int)  : List Int → Nat → Int
  | [], i => x3
  | e :: rest, i => (if (e : Int) = x3 then (cmp_Or_int.l8.v x3 rest (i + 1)) else e)
theorem cmp_Or_int.l8.v_ev (x3 : Int) (x6 : (List Int)) (f_x3 : fitSh (.int .i64) x3) (f_x6 : fitSh (.list (.int .i64)) x6)  : ∀ (rest : List Int) (i : Nat)  , x6.drop i = rest → EvF (.int .i64) (fun K j => cmp_Or_int.l8 K j x3 x6 (x6.length : Int) (i : Int)) (cmp_Or_int.l8.v x3 rest i ) := by
  have bX : x6.length ≤ 140737488351232 := f_x6.1
  intro rest
  induction rest with
  | nil =>
    intro i hd
    have hz := drop_none hd
    unfold cmp_Or_int.l8.v
    exact EvF.lp (fun K j => cmp_Or_int.l8_eq K j x3 x6 (x6.length : Int) (i : Int)) (EvF.no (by omega) (EvF.now (f_x3)))
  | cons e rest ih =>
    intro i hd
    obtain ⟨hlt, hd2, hx⟩ := drop_more hd
    have f_e : fitSh (.int .i64) e := hx (dflt (.int .i64)) ▸ fit_rd f_x6 _
    have f_i : fitSh (.int .i64) (i : Int) := fit_len (by omega)
    unfold cmp_Or_int.l8.v
    refine EvF.lp (fun K j => cmp_Or_int.l8_eq K j x3 x6 (x6.length : Int) (i : Int)) (EvF.yes (by omega) ?_)
    try rw [hx]
    try rw [wrap_nat (i := i) (by omega)]
    exact (EvF.yes (by first | omega | (simp only [wrap64] at *; omega)) (EvF.ite (fun h0 => (ih (i + 1)   hd2)) fun h0 => (EvF.now (f_e))))
def cmp_Or_int.v (a0 : (List Int)) : Int :=
  (cmp_Or_int.l8.v 0 a0 0)
theorem cmp_Or_int.v_ev (a0 : (List Int)) (f_a0 : fitSh (.list (.int .i64)) a0) : EvF (.int .i64) (fun K _ => cmp_Or_int.f K a0) (cmp_Or_int.v a0) := by
  unfold cmp_Or_int.v
  exact EvF.fn (fun k => cmp_Or_int.f_eq k a0) (EvF.diag (cmp_Or_int.l8.v_ev 0 a0 ((fit_wfb rfl)) (f_a0)  _ 0    rfl))
def impl_ycmpStamp.v (a0 : T85) (a1 : T85) : Int :=
  (let t0 := cmp_Compare_int.v a0.1 a1.1; (let t1 := cmp_Compare_int.v a0.2.1 a1.2.1; (cmp_Or_int.v [t0, t1])))
theorem impl_ycmpStamp.v_ev (a0 : T85) (a1 : T85) (f_a0 : fitSh S85 a0) (f_a1 : fitSh S85 a1) : EvF (.int .i64) (fun K _ => impl_ycmpStamp.f K a0 a1) (impl_ycmpStamp.v a0 a1) := by
  unfold impl_ycmpStamp.v
  exact EvF.fn (fun k => impl_ycmpStamp.f_eq k a0 a1) (EvF.bind (cmp_Compare_int.v_ev _ _ (f_a0.1) (f_a1.1)) fun f_t0 => (EvF.bind (cmp_Compare_int.v_ev _ _ (f_a0.2.1) (f_a1.2.1)) fun f_t1 => (EvF.bind (cmp_Or_int.v_ev _ (fit_lst (Nat.le_of_ble_eq_true rfl) (fit_cons (f_t0) (fit_cons (f_t1) (fun _ hx => by cases hx))))) fun f_t2 => (EvF.now (f_t2)))))
def impl_GoodLog.l14.v (x8 : (List T89))  : List T89 → Nat → Bool
  | [], i => true
  | e :: rest, i => (let t0 := impl_GoodChange.v e; (if t0 = true then (if ((i : Int) : Int) > 0 then (let t1 := impl_ycmpStamp.v (rd Z89 x8 (wrap64 ((i : Int) - 1))).1 e.1; (if (t1 : Int) ≥ 0 then false else (impl_GoodLog.l14.v x8 rest (i + 1)))) else (impl_GoodLog.l14.v x8 rest (i + 1))) else false))
theorem impl_GoodLog.l14.v_ev (x8 : (List T89)) (f_x8 : fitSh (.list S89) x8)  : ∀ (rest : List T89) (i : Nat)  , x8.drop i = rest → EvF .bool (fun K j => impl_GoodLog.l14 K j x8 x8 (x8.length : Int) (i : Int)) (impl_GoodLog.l14.v x8 rest i ) := by
  have bX : x8.length ≤ 140737488351232 := f_x8.1
  intro rest
  induction rest with
  | nil =>
    intro i hd
    have hz := drop_none hd
    unfold impl_GoodLog.l14.v
    exact EvF.lp (fun K j => impl_GoodLog.l14_eq K j x8 x8 (x8.length : Int) (i : Int)) (EvF.no (by omega) (EvF.now (fit_bool _)))
  | cons e rest ih =>
    intro i hd
    obtain ⟨hlt, hd2, hx⟩ := drop_more hd
    have f_e : fitSh S89 e := hx (dflt S89) ▸ fit_rd f_x8 _
    have f_i : fitSh (.int .i64) (i : Int) := fit_len (by omega)
    unfold impl_GoodLog.l14.v
    refine EvF.lp (fun K j => impl_GoodLog.l14_eq K j x8 x8 (x8.length : Int) (i : Int)) (EvF.yes (by omega) ?_)
    try rw [hx]
    try rw [wrap_nat (i := i) (by omega)]
    exact (EvF.yes (by first | omega | (simp only [wrap64] at *; omega)) (EvF.bind (impl_GoodChange.v_ev _ (f_e)) fun f_t0 => (EvF.ite (fun h0 => (EvF.ite (fun h1 => (EvF.yes (by first | omega | (simp only [wrap64] at *; omega)) (EvF.bind (impl_ycmpStamp.v_ev _ _ (((fit_rd (f_x8) _)).1) (f_e.1)) fun f_t1 => (EvF.ite (fun h2 => (EvF.now (fit_bool _))) fun h2 => (ih (i + 1)   hd2))))) fun h1 => (ih (i + 1)   hd2))) fun h0 => (EvF.now (fit_bool _)))))
def impl_GoodLog.v (a0 : (List T89)) : Bool :=
  (if ((a0.length : Int) : Int) > 200 then false else (impl_GoodLog.l14.v a0 a0 0))
theorem impl_GoodLog.v_ev (a0 : (List T89)) (f_a0 : fitSh (.list S89) a0) : EvF .bool (fun K _ => impl_GoodLog.f K a0) (impl_GoodLog.v a0) := by
  unfold impl_GoodLog.v
  exact EvF.fn (fun k => impl_GoodLog.f_eq k a0) (EvF.ite (fun h0 => (EvF.now (fit_bool _))) fun h0 => (EvF.diag (impl_GoodLog.l14.v_ev a0 (f_a0)  _ 0    rfl)))

theorem change_same (a : T89) : impl_GoodChange.v a = spec_GoodChange.v a := by
  have L1 : ∀ (t : ByteArray) (n : Int), impl_yprinted.v t 1 n = (if ((t.size : Int) : Int) ≥ 1 then (if ((t.size : Int) : Int) ≤ n then printed t else false) else false) := fun t n => by
    unfold impl_yprinted.v
    by_cases h1 : (t.size : Int) ≥ 1
    · rw [if_pos h1]
      by_cases h2 : (t.size : Int) ≤ n
      · rw [if_pos h2, decide_eq_true (by omega), Bool.true_and]
      · rw [if_neg h2, decide_eq_false (by omega), Bool.false_and]
    · rw [if_neg h1, decide_eq_false (by omega), Bool.false_and]
  have L2 : ∀ (g q t : Bool) (p1 p2 : Prop) [Decidable p1] [Decidable p2], (if (if g = true then (if p1 then (if p2 then q else false) else false) else false) = true then t else false) = (if g = true then (if p1 then (if p2 then (if q = true then t else false) else false) else false) else false) := fun g q t p1 p2 _ _ => by
    cases g <;> by_cases h1 : p1 <;> by_cases h2 : p2 <;> simp [h1, h2]
  unfold impl_GoodChange.v spec_GoodChange.v impl_ygoodPart.v
  simp only [L1, L2]
  rfl

/-! ### the order of pairs of texts -/
theorem cmpL_trans : ∀ (a b c : List Int), cmpL a b < 0 → cmpL b c < 0 → cmpL a c < 0
  | [], [], _, h, _ => by simp [cmpL] at h
  | [], _ :: _, [], _, h => by simp [cmpL] at h
  | [], _ :: _, _ :: _, _, _ => by simp [cmpL]
  | _ :: _, [], _, h, _ => by simp [cmpL] at h
  | _ :: _, _ :: _, [], _, h => by simp [cmpL] at h
  | x :: a, y :: b, z :: c, h1, h2 => by
    unfold cmpL at h1 h2 ⊢
    by_cases e1 : x = y
    · subst e1
      rw [if_pos rfl] at h1
      by_cases e2 : x = z
      · rw [if_pos e2] at h2 ⊢
        exact cmpL_trans a b c h1 h2
      · rw [if_neg e2] at h2 ⊢
        exact h2
    · rw [if_neg e1] at h1
      by_cases e2 : y = z
      · subst e2
        rw [if_neg e1]; exact h1
      · rw [if_neg e2] at h2
        have l1 : x < y := by
          by_cases q : x < y
          · exact q
          · rw [if_neg q] at h1; omega
        have l2 : y < z := by
          by_cases q : y < z
          · exact q
          · rw [if_neg q] at h2; omega
        rw [if_neg (by omega), if_pos (by omega)]; omega
theorem cmpT_trans {a b c : ByteArray} (h1 : cmpT a b < 0) (h2 : cmpT b c < 0) : cmpT a c < 0 := cmpL_trans _ _ _ h1 h2
theorem cmpT_anti (a b : ByteArray) : cmpT b a = - cmpT a b := cmpL_anti _ _
theorem cmpT_self (a : ByteArray) : cmpT a a = 0 := cmpT_zero.2 rfl
def kc (a b : ByteArray × ByteArray) : Int := if cmpT a.1 b.1 = 0 then cmpT a.2 b.2 else cmpT a.1 b.1
theorem kc_zero {a b : ByteArray × ByteArray} : kc a b = 0 ↔ a = b := by
  unfold kc
  constructor
  · intro h
    by_cases q : cmpT a.1 b.1 = 0
    · rw [if_pos q] at h
      exact Prod.ext (cmpT_zero.1 q) (cmpT_zero.1 h)
    · rw [if_neg q] at h; exact absurd h q
  · rintro rfl
    rw [if_pos (cmpT_self _), cmpT_self]
theorem kc_anti (a b : ByteArray × ByteArray) : kc b a = - kc a b := by
  unfold kc
  rw [cmpT_anti a.1 b.1, cmpT_anti a.2 b.2]
  by_cases q : cmpT a.1 b.1 = 0
  · rw [if_pos q, if_pos (by omega)]
  · rw [if_neg q, if_neg (by omega)]
theorem kc_trans {a b c : ByteArray × ByteArray} (h1 : kc a b < 0) (h2 : kc b c < 0) : kc a c < 0 := by
  unfold kc at *
  by_cases q1 : cmpT a.1 b.1 = 0
  · rw [if_pos q1] at h1
    have e1 := cmpT_zero.1 q1
    rw [e1]
    by_cases q2 : cmpT b.1 c.1 = 0
    · rw [if_pos q2] at h2 ⊢; exact cmpT_trans h1 h2
    · rw [if_neg q2] at h2 ⊢; exact h2
  · rw [if_neg q1] at h1
    by_cases q2 : cmpT b.1 c.1 = 0
    · have e2 := cmpT_zero.1 q2
      rw [← e2, if_neg q1]; exact h1
    · rw [if_neg q2] at h2
      have := cmpT_trans h1 h2
      rw [if_neg (by omega)]; exact this
theorem kc_swo {α : Type} (f : α → ByteArray × ByteArray) : Go.Sort.SWO (Go.Proofs.ltOf fun x y => kc (f x) (f y)) := by
  refine ⟨fun x => ?_, fun x y z => ?_, fun x y z => ?_⟩ <;> unfold Go.Proofs.ltOf
  · have : kc (f x) (f x) = 0 := kc_zero.2 rfl
    show decide (kc (f x) (f x) < 0) = false
    rw [this]; rfl
  · intro h1 h2
    simp only [decide_eq_true_eq] at *
    exact kc_trans h1 h2
  · intro h1 h2
    simp only [decide_eq_false_iff_not] at *
    intro h3
    by_cases q : kc (f x) (f y) = 0
    · rw [kc_zero.1 q] at h3; exact h2 h3
    · have : kc (f y) (f x) < 0 := by rw [kc_anti]; omega
      exact h2 (kc_trans this h3)

/-! ### the law's measure -/
def SzP (g : Nat → Nat → Option Int) (m : Int) (P : Prop) : Prop := ∃ r, Ev g r ∧ -1 ≤ r ∧ r ≤ m ∧ (0 ≤ r → P)
theorem SzP.now {r m : Int} {P : Prop} (h : -1 ≤ r) (h1 : r ≤ m) (p : P) : SzP (fun _ _ => some r) m P := ⟨r, Ev.now _, h, h1, fun _ => p⟩
theorem SzP.cut {c : Prop} {inst : Decidable c} {B : Nat → Nat → Option Int} {m : Int} {P : Prop} (hm : -1 ≤ m) (h : ¬ c → SzP B m P) : SzP (fun K j => @ite _ c inst (some (-1)) (B K j)) m P := by
  by_cases e : c
  · exact ⟨-1, Ev.yes e (Ev.now _), by omega, hm, fun h => by omega⟩
  · obtain ⟨r, q, q1, q2, q3⟩ := h e
    exact ⟨r, Ev.no e q, q1, q2, q3⟩
theorem SzP.bind {g : Nat → Nat → Option Int} {f : Nat → Nat → Int → Option Int} {m m' : Int} {P P' : Prop} (h : SzP g m' P') (hm : -1 ≤ m) (k : ∀ r, 0 ≤ r → r ≤ m' → P' → SzP (fun K j => f K j r) m P) :
    SzP (fun K j => (g K j).bind fun t => if t < 0 then some (-1) else f K j t) m P := by
  obtain ⟨r, q, q1, q2, q3⟩ := h
  by_cases e : r < 0
  · exact ⟨-1, q.bind (Ev.yes e (Ev.now _)), by omega, hm, fun h => by omega⟩
  · obtain ⟨s, z, z1, z2, z3⟩ := k r (by omega) q2 (q3 (by omega))
    exact ⟨s, q.bind (Ev.no e z), z1, z2, z3⟩
theorem SzP.fn {f B : Nat → Option Int} {m : Int} {P : Prop} (e : ∀ k, f (k + 1) = B k) (h : SzP (fun K _ => B K) m P) : SzP (fun K _ => f K) m P := by
  obtain ⟨r, q, q1, q2, q3⟩ := h; exact ⟨r, Ev.fn e q, q1, q2, q3⟩
theorem SzP.imp {g : Nat → Nat → Option Int} {m m' : Int} {P P' : Prop} (h : SzP g m P) (hm : m ≤ m') (hp : P → P') : SzP g m' P' := by
  obtain ⟨r, q, q1, q2, q3⟩ := h; exact ⟨r, q, q1, by omega, fun z => hp (q3 z)⟩

/-! ### the library's sort -/
theorem ev_all {α : Type} {P : Nat → α → Prop} : ∀ {l : List α}, (∀ x ∈ l, ∃ n, ∀ K, n ≤ K → P K x) → ∃ n, ∀ x ∈ l, ∀ K, n ≤ K → P K x
  | [], _ => ⟨0, fun x hx => by cases hx⟩
  | a :: l, h => by
    obtain ⟨n, hn⟩ := h a List.mem_cons_self
    obtain ⟨m, hm⟩ := ev_all (l := l) fun x hx => h x (List.mem_cons_of_mem _ hx)
    refine ⟨max n m, fun x hx K hK => ?_⟩
    rcases List.mem_cons.1 hx with rfl | hx
    · exact hn K (by omega)
    · exact hm x hx K (by omega)
theorem swo_val {α : Type} {cf : α → α → Int} (hO : Go.Sort.SWO (Go.Proofs.ltOf cf)) (p : α → Prop) : Go.Sort.SWO (Go.Proofs.ltOf fun x y : {x // p x} => cf x.1 y.1) :=
  ⟨fun x => hO.irrefl x.1, fun x y z => hO.trans x.1 y.1 z.1, fun x y z => hO.ntrans x.1 y.1 z.1⟩
theorem Ev.sort {α : Type} {c : Nat → α → α → Option Int} {cf : α → α → Int} {l : List α} (h : ∀ x ∈ l, ∀ y ∈ l, Ev (fun K _ => c K x y) (cf x y)) (hO : Go.Sort.SWO (Go.Proofs.ltOf cf)) :
    ∃ l2, Ev (fun K _ => sortF (c K) l) l2 ∧ l2.Perm l ∧ l2.Pairwise (fun a b => ¬ cf b a < 0) := by
  have hO' := swo_val hO (fun x => x ∈ l)
  obtain ⟨n, hn⟩ := ev_all (l := l) (P := fun K x => ∀ y ∈ l, c K x y = some (cf x y)) fun x hx => by
    obtain ⟨n, hn⟩ := ev_all (l := l) (P := fun K y => c K x y = some (cf x y)) fun y hy => by
      obtain ⟨n, hn⟩ := h x hx y hy
      exact ⟨n, fun K hK => hn K n hK (Nat.le_refl _)⟩
    exact ⟨n, fun K hK y hy => hn y hy K hK⟩
  have hS : ∀ K, n ≤ K → SortsBy (c K) l (fun x y => cf x.1 y.1) := fun K hK => ⟨fun x y => hn x.1 x.2 K hK y.1 y.2, hO'⟩
  have hsome : ∀ K, n ≤ K → ∃ r, sortF (c K) l = some r := fun K hK => by
    unfold sortF
    rw [dif_pos ⟨_, hS K hK⟩]
    split
    · exact ⟨_, rfl⟩
    · exact ⟨_, rfl⟩
  by_cases hl : l = []
  · refine ⟨[], ⟨n, fun K j hK _ => ?_⟩, by rw [hl], List.Pairwise.nil⟩
    obtain ⟨r, hr⟩ := hsome K hK
    rcases sortF_some hr with ⟨_, rfl⟩ | ⟨hl2, _⟩
    · exact hr
    · exact absurd hl hl2
  · letI : Inhabited {x // x ∈ l} := ⟨⟨l.head hl, List.head_mem hl⟩⟩
    refine ⟨(Go.Sort.pdq (Go.Proofs.ltOf fun x y : {x // x ∈ l} => cf x.1 y.1) l.attach.toArray 0 l.attach.toArray.size (Go.Lib.bitLen l.attach.toArray.size) true true).toList.map Subtype.val, ⟨n, fun K j hK _ => ?_⟩, ?_⟩
    · obtain ⟨r, hr⟩ := hsome K hK
      rcases sortF_some hr with ⟨hl2, _⟩ | ⟨_, cf', hS', rfl⟩
      · exact absurd hl2 hl
      · have : cf' = fun x y => cf x.1 y.1 := by
          funext x y
          exact Option.some.inj ((hS'.1 x y).symm.trans ((hS K hK).1 x y))
        subst this
        exact hr
    · obtain ⟨⟨h1, _, h3⟩, h4⟩ := Go.Sort.pdq_sorts (Go.Proofs.ltOf fun x y : {x // x ∈ l} => cf x.1 y.1) hO' l.attach.toArray 0 l.attach.toArray.size (Go.Lib.bitLen l.attach.toArray.size) true true (Nat.zero_le _) (Nat.le_refl _) (Or.inl rfl)
      generalize Go.Sort.pdq (Go.Proofs.ltOf fun x y : {x // x ∈ l} => cf x.1 y.1) l.attach.toArray 0 l.attach.toArray.size (Go.Lib.bitLen l.attach.toArray.size) true true = d at h1 h3 h4 ⊢
      constructor
      · rw [← h1] at h3
        rw [Array.extract_size] at h3
        rw [h1, Array.extract_size] at h3
        have := h3.map Subtype.val
        simpa using this
      · rw [List.pairwise_map]
        rw [List.pairwise_iff_getElem]
        intro i j hi hj hij
        have h5 := h4 i j (Nat.zero_le _) hij (by rw [← h1]; simpa using hj)
        rw [getElem!_pos d j (by simpa using hj), getElem!_pos d i (by simpa using hi)] at h5
        unfold Go.Proofs.ltOf at h5
        simpa using h5
/-- two rows in strict order that hold the same are the same -/
theorem eq_of_strict {α : Type} {lt : α → α → Prop} (hi : ∀ a, ¬ lt a a) (ha : ∀ a b, lt a b → ¬ lt b a) : ∀ {l m : List α}, l.Pairwise lt → m.Pairwise lt → (∀ x, x ∈ l ↔ x ∈ m) → l = m
  | [], [], _, _, _ => rfl
  | [], b :: m, _, _, h => by have := (h b).2 List.mem_cons_self; cases this
  | a :: l, [], _, _, h => by have := (h a).1 List.mem_cons_self; cases this
  | a :: l, b :: m, h1, h2, h => by
    rw [List.pairwise_cons] at h1 h2
    have e : a = b := by
      rcases List.mem_cons.1 ((h a).1 List.mem_cons_self) with q | q
      · exact q
      · rcases List.mem_cons.1 ((h b).2 List.mem_cons_self) with z | z
        · exact z.symm
        · exact absurd (h1.1 b z) (ha _ _ (h2.1 a q))
    subst e
    rw [eq_of_strict hi ha h1.2 h2.2 fun x => ⟨fun q => ?_, fun q => ?_⟩]
    · rcases List.mem_cons.1 ((h x).1 (List.mem_cons_of_mem _ q)) with z | z
      · exact absurd (h1.1 x q) (z ▸ hi _)
      · exact z
    · rcases List.mem_cons.1 ((h x).2 (List.mem_cons_of_mem _ q)) with z | z
      · exact absurd (h2.1 x q) (z ▸ hi _)
      · exact z
theorem Ev.allK {α : Type} {n : Nat} {F : Nat → Nat → Int → Option α} {r : α} (h0 : 0 < n) (h : ∀ i : Nat, i < n → Ev (fun K j => F K j (i : Int)) r) : Ev (fun K j => Go.Den.allK (n : Int) (F K j)) r := by
  have : ∀ m, m ≤ n → ∃ q, ∀ K j, q ≤ K → q ≤ j → ∀ i : Nat, i < m → F K j (i : Int) = some r := by
    intro m
    induction m with
    | zero => exact fun _ => ⟨0, fun K j _ _ i hi => absurd hi (Nat.not_lt_zero _)⟩
    | succ m ih =>
      intro hm
      obtain ⟨q, hq⟩ := ih (by omega)
      obtain ⟨p, hp⟩ := h m (by omega)
      refine ⟨max p q, fun K j h1 h2 i hi => ?_⟩
      by_cases e : i = m
      · subst e; exact hp K j (by omega) (by omega)
      · exact hq K j (by omega) (by omega) i (by omega)
  obtain ⟨q, hq⟩ := this n (Nat.le_refl _)
  refine ⟨q, fun K j h1 h2 => ?_⟩
  have ex : ∃ r : α, 0 < (n : Int) ∧ ∀ i : Int, 0 ≤ i → i < (n : Int) → F K j i = some r := ⟨r, by omega, fun i hi1 hi2 => by
    have := hq K j h1 h2 i.toNat (by omega)
    rwa [Int.toNat_of_nonneg hi1] at this⟩
  show Go.Den.allK (n : Int) (F K j) = some r
  unfold Go.Den.allK
  rw [dif_pos ex]
  have := ex.choose_spec.2 0 (by omega) (by omega)
  have h3 := hq K j h1 h2 0 h0
  exact this.symm.trans h3

/-! ### orders told by a number below, at or above 0 -/
structure Ord3 {α : Type} (c : α → α → Int) : Prop where
  anti : ∀ a b, c b a = - c a b
  trans : ∀ a b d, c a b < 0 → c b d < 0 → c a d < 0
  same : ∀ a b d, c a b = 0 → c a d = c b d
theorem Ord3.self {α : Type} {c : α → α → Int} (h : Ord3 c) (a : α) : c a a = 0 := by have := h.anti a a; omega
theorem Ord3.same2 {α : Type} {c : α → α → Int} (h : Ord3 c) (a b d : α) (e : c a b = 0) : c d a = c d b := by rw [h.anti a d, h.anti b d, h.same a b d e]
theorem Ord3.swo {α : Type} {c : α → α → Int} (h : Ord3 c) : Go.Sort.SWO (Go.Proofs.ltOf c) := by
  refine ⟨fun x => ?_, fun x y z => ?_, fun x y z => ?_⟩ <;> unfold Go.Proofs.ltOf
  · rw [h.self x]; rfl
  · intro h1 h2
    simp only [decide_eq_true_eq] at *
    exact h.trans _ _ _ h1 h2
  · intro h1 h2
    simp only [decide_eq_false_iff_not] at *
    intro h3
    by_cases q : c x y = 0
    · rw [h.same x y z q] at h3; exact h2 h3
    · have : c y x < 0 := by rw [h.anti x y]; omega
      exact h2 (h.trans _ _ _ this h3)
theorem Ord3.of {α β : Type} {c : β → β → Int} (h : Ord3 c) (f : α → β) : Ord3 (fun a b => c (f a) (f b)) := ⟨fun a b => h.anti _ _, fun a b d => h.trans _ _ _, fun a b d => h.same _ _ _⟩
def lex {α : Type} (c1 c2 : α → α → Int) (a b : α) : Int := if c1 a b = 0 then c2 a b else c1 a b
theorem lex_zero {α : Type} {c1 c2 : α → α → Int} {a b : α} : lex c1 c2 a b = 0 ↔ c1 a b = 0 ∧ c2 a b = 0 := by
  unfold lex
  split
  · rename_i h; exact ⟨fun q => ⟨h, q⟩, fun q => q.2⟩
  · rename_i h; exact ⟨fun q => absurd q h, fun q => absurd q.1 h⟩
theorem Ord3.lx {α : Type} {c1 c2 : α → α → Int} (h1 : Ord3 c1) (h2 : Ord3 c2) : Ord3 (lex c1 c2) := by
  refine ⟨fun a b => ?_, fun a b d p q => ?_, fun a b d e => ?_⟩
  · unfold lex
    have e := h1.anti a b
    have e2 := h2.anti a b
    by_cases z : c1 a b = 0
    · rw [if_pos z, if_pos (by omega), e2]
    · rw [if_neg z, if_neg (by omega), e]
  · unfold lex at *
    by_cases z : c1 a b = 0
    · rw [if_pos z] at p
      rw [h1.same a b d z]
      by_cases w : c1 b d = 0
      · rw [if_pos w] at q ⊢; exact h2.trans _ _ _ p q
      · rw [if_neg w] at q ⊢; exact q
    · rw [if_neg z] at p
      have : c1 a d < 0 := by
        by_cases w : c1 b d = 0
        · rw [← h1.same2 b d a w]; exact p
        · rw [if_neg w] at q; exact h1.trans _ _ _ p q
      rw [if_neg (by omega)]; exact this
  · obtain ⟨e1, e2⟩ := lex_zero.1 e
    unfold lex
    rw [h1.same a b d e1, h2.same a b d e2]
def cmpN (a b : Int) : Int := if a < b then -1 else if a > b then 1 else 0
theorem cmpN_zero {a b : Int} : cmpN a b = 0 ↔ a = b := by unfold cmpN; split <;> (try split) <;> constructor <;> intro h <;> omega
theorem ordN : Ord3 cmpN := by
  refine ⟨fun a b => ?_, fun a b d p q => ?_, fun a b d e => ?_⟩
  · unfold cmpN; split <;> split <;> (try split) <;> omega
  · unfold cmpN at *
    have h1 : a < b := by
      by_cases z : a < b
      · exact z
      · rw [if_neg z] at p; split at p <;> omega
    have h2 : b < d := by
      by_cases z : b < d
      · exact z
      · rw [if_neg z] at q; split at q <;> omega
    rw [if_pos (by omega)]; omega
  · rw [cmpN_zero.1 e]
theorem ordT : Ord3 cmpT := ⟨cmpT_anti, fun a b d => cmpT_trans, fun a b d e => by rw [cmpT_zero.1 e]⟩
/-- a row in order, put together with another that holds the same -/
theorem strict_eq {α : Type} {c : α → α → Int} (h : Ord3 c) {l m : List α} (hl : l.Pairwise fun a b => c a b < 0) (hm : m.Pairwise fun a b => c a b < 0) (hx : ∀ x, x ∈ l ↔ x ∈ m) : l = m :=
  eq_of_strict (fun a => by rw [h.self]; omega) (fun a b q => by rw [h.anti a b]; omega) hl hm hx

/-! ### a search in a sorted row, by halves -/
theorem half_eq (i j : Nat) (h : i + j ≤ 4000000000) : wrap64 (shrI .u64 (wr .u64 (wrap64 ((i : Int) + (j : Int)))) 1) = (((i + j) / 2 : Nat) : Int) := by
  rw [wrap_id (x := (i : Int) + j) (by omega) (by omega)]
  have e : wr .u64 ((i : Int) + j) = (i : Int) + j := by
    show (IntKind.u64).wrap _ = _
    simp only [IntKind.wrap, IntKind.bits, IntKind.signed]
    simp
    omega
  rw [e]
  have e2 : shrI .u64 ((i : Int) + j) 1 = (((i + j) / 2 : Nat) : Int) := by
    unfold shrI
    show ((i : Int) + j).fdiv 2 = _
    rw [Int.fdiv_eq_ediv_of_nonneg _ (by omega)]
    omega
  rw [e2, wrap_id (by omega) (by omega)]
theorem bs_loop {α β : Type} {L : Nat → Nat → Int → Int → Option β} {l : List α} {p : α → Bool}
    (mono : ∀ i j (hi : i < l.length) (hj : j < l.length), i ≤ j → p l[j] = true → p l[i] = true)
    (step : ∀ (i j h : Nat) (hl : h < l.length), i ≤ h → h < j → j ≤ l.length → h = (i + j) / 2 → (p l[h] = true → ∀ r, Ev (fun K q => L K q ((h + 1 : Nat) : Int) (j : Int)) r → Ev (fun K q => L K q (i : Int) (j : Int)) r) ∧ (p l[h] = false → ∀ r, Ev (fun K q => L K q (i : Int) (h : Int)) r → Ev (fun K q => L K q (i : Int) (j : Int)) r)) :
    ∀ (d i j : Nat), j = i + d → j ≤ l.length → (∀ t (h : t < l.length), t < i → p l[t] = true) → (∀ t (h : t < l.length), j ≤ t → p l[t] = false) →
      ∃ m, m ≤ l.length ∧ (∀ t (h : t < l.length), t < m → p l[t] = true) ∧ (∀ t (h : t < l.length), m ≤ t → p l[t] = false) ∧ ∀ r, Ev (fun K q => L K q (m : Int) (m : Int)) r → Ev (fun K q => L K q (i : Int) (j : Int)) r := by
  intro d
  induction d using Nat.strongRecOn with
  | ind d ih =>
    intro i j hj hl h1 h2
    by_cases h0 : d = 0
    · subst h0
      obtain rfl : j = i := by omega
      exact ⟨j, hl, h1, h2, fun r hr => hr⟩
    · have hh : (i + j) / 2 < l.length := by omega
      obtain ⟨s1, s2⟩ := step i j ((i + j) / 2) hh (by omega) (by omega) hl rfl
      cases hp : p l[(i + j) / 2] with
      | true =>
        obtain ⟨m, m1, m2, m3, m4⟩ := ih (j - ((i + j) / 2 + 1)) (by omega) ((i + j) / 2 + 1) j (by omega) hl (fun t h ht => mono t _ h hh (by omega) hp) h2
        exact ⟨m, m1, m2, m3, fun r hr => s1 hp r (m4 r hr)⟩
      | false =>
        obtain ⟨m, m1, m2, m3, m4⟩ := ih ((i + j) / 2 - i) (by omega) i ((i + j) / 2) (by omega) (by omega) h1 (fun t h ht => by
          cases q : p l[t] with
          | false => rfl
          | true => rw [mono _ t hh h ht q] at hp; cases hp)
        exact ⟨m, m1, m2, m3, fun r hr => s2 hp r (m4 r hr)⟩

theorem compare_int (a b : Int) : cmp_Compare_int.v a b = cmpN a b := by
  unfold cmp_Compare_int.v cmpN cmp_isNaN_int.v; simp
theorem or2i (a b : Int) : cmp_Or_int.v [a, b] = if a = 0 then b else a := by
  unfold cmp_Or_int.v
  simp only [cmp_Or_int.l8.v]
  by_cases h : b = 0
  · rw [if_pos h, h]
  · rw [if_neg h]
def scmp (a b : T85) : Int := lex (fun a b : T85 => cmpN a.1 b.1) (fun a b : T85 => cmpN a.2.1 b.2.1) a b
theorem ordS : Ord3 scmp := (ordN.of (α := T85) (fun a => a.1)).lx (ordN.of (α := T85) (fun a => a.2.1))
theorem scmp_zero {a b : T85} : scmp a b = 0 ↔ a = b := by
  constructor
  · intro h
    obtain ⟨h1, h2⟩ := lex_zero.1 h
    have h1 := cmpN_zero.1 h1
    have h2 := cmpN_zero.1 h2
    obtain ⟨a1, a2, _⟩ := a
    obtain ⟨b1, b2, _⟩ := b
    simp only at h1 h2
    rw [h1, h2]
  · intro h; rw [h]; exact ordS.self b
theorem l4Cmp_eq (a b : T85) : spec_l4Cmp.v a b = scmp a b := rfl
theorem ycmpStamp_eq (a b : T85) : impl_ycmpStamp.v a b = scmp a b := by
  unfold impl_ycmpStamp.v
  simp only [compare_int, or2i]
  rfl
theorem logLoop_same (x : List T89) : ∀ (rest : List T89) (i : Nat), impl_GoodLog.l14.v x rest i = spec_GoodLog.l14.v x rest i
  | [], i => rfl
  | e :: rest, i => by
    unfold impl_GoodLog.l14.v spec_GoodLog.l14.v
    simp only [change_same, ycmpStamp_eq, l4Cmp_eq, logLoop_same x rest (i + 1)]
    rfl
theorem log_same (l : List T89) : impl_GoodLog.v l = spec_GoodLog.v l := by
  unfold impl_GoodLog.v spec_GoodLog.v
  rw [logLoop_same]
theorem log_len {l : List T89} (h : spec_GoodLog.v l = true) : l.length ≤ 200 := by
  unfold spec_GoodLog.v at h
  split at h
  · cases h
  · omega
theorem log_all (x : List T89) : ∀ (rest : List T89) (i : Nat), spec_GoodLog.l14.v x rest i = true → ∀ e ∈ rest, spec_GoodChange.v e = true
  | [], _, _, e, he => by cases he
  | d :: rest, i, hv, e, he => by
    unfold spec_GoodLog.l14.v at hv
    by_cases a : spec_GoodChange.v d = true
    · simp only [a, if_true] at hv
      have hv2 : spec_GoodLog.l14.v x rest (i + 1) = true := by
        by_cases q : (i : Int) > 0
        · rw [if_pos q] at hv
          split at hv
          · cases hv
          · exact hv
        · rw [if_neg q] at hv; exact hv
      rcases List.mem_cons.1 he with rfl | he
      · exact a
      · exact log_all x rest (i + 1) hv2 e he
    · simp only [a] at hv; cases hv
theorem log_next (x0 : List T89) (hx : x0.length ≤ 200) : ∀ (rest : List T89) (i : Nat), spec_GoodLog.l14.v x0 rest i = true → x0.drop i = rest → ∀ j, i ≤ j → 0 < j → (h : j < x0.length) → scmp x0[j - 1].1 x0[j].1 < 0
  | [], i, _, hd, j, h1, h2, h3 => by have := drop_none hd; omega
  | e :: rest, i, hv, hd, j, h1, h2, h3 => by
    obtain ⟨hi, hd2, hr⟩ := drop_more hd
    have he : x0[i] = e := by have := hr Z89; rwa [rd_at _ _ _ hi] at this
    unfold spec_GoodLog.l14.v at hv
    by_cases a : spec_GoodChange.v e = true
    · simp only [a, if_true] at hv
      by_cases hj : j = i
      · subst hj
        rw [if_pos (by omega), show wrap64 ((j : Int) - 1) = ((j - 1 : Nat) : Int) from cast_pred h2 (by omega), rd_at _ _ _ (show j - 1 < x0.length by omega)] at hv
        split at hv
        · cases hv
        · rename_i hc
          rw [l4Cmp_eq] at hc
          rw [he]; omega
      · refine log_next x0 hx rest (i + 1) ?_ hd2 j (by omega) h2 h3
        by_cases q : (i : Int) > 0
        · rw [if_pos q] at hv
          split at hv
          · cases hv
          · exact hv
        · rw [if_neg q] at hv; exact hv
    · simp only [a] at hv; cases hv
abbrev rising (l : List T89) : Prop := l.Pairwise fun a b => scmp a.1 b.1 < 0
theorem log_rising {g : List T89} (h : spec_GoodLog.v g = true) : rising g := by
  have hl := log_len h
  have h' : spec_GoodLog.l14.v g g 0 = true := by
    unfold spec_GoodLog.v at h
    split at h
    · cases h
    · exact h
  have key : ∀ (d i : Nat) (hj : i + d + 1 < g.length), scmp g[i].1 g[i + d + 1].1 < 0 := by
    intro d
    induction d with
    | zero => intro i hj; exact log_next g hl g 0 h' rfl (i + 1) (Nat.zero_le _) (by omega) hj
    | succ d ih => intro i hj; exact ordS.trans _ _ _ (ih i (by omega)) (log_next g hl g 0 h' rfl (i + d + 1 + 1) (Nat.zero_le _) (by omega) hj)
  unfold rising
  rw [List.pairwise_iff_getElem]
  intro i j hi hj hij
  obtain ⟨d, rfl⟩ : ∃ d, j = i + d + 1 := ⟨j - i - 1, by omega⟩
  exact key d i hj
/-! ### a change put in its place -/
structure Stands (l : List T89) (s : T85) (m : Nat) : Prop where
  le : m ≤ l.length
  lt : ∀ t (h : t < l.length), t < m → scmp l[t].1 s < 0
  ge : ∀ t (h : t < l.length), m ≤ t → ¬ scmp l[t].1 s < 0
theorem Stands.uniq {l : List T89} {s : T85} {m n : Nat} (h : Stands l s m) (k : Stands l s n) : m = n := by
  rcases Nat.lt_trichotomy m n with q | q | q
  · exact absurd (k.lt m (by have := k.le; omega) q) (h.ge m (by have := k.le; omega) (Nat.le_refl _))
  · exact q
  · exact absurd (h.lt n (by have := h.le; omega) q) (k.ge n (by have := h.le; omega) (Nat.le_refl _))
open Classical in
noncomputable def recv1 (l : List T89) (c : T89) : List T89 :=
  if h : ∃ m, Stands l c.1 m then (if ∃ q : h.choose < l.length, scmp l[h.choose].1 c.1 = 0 then l else insL l (h.choose : Int) [c]) else l
open Classical in
theorem recv1_eq {l : List T89} {c : T89} {m : Nat} (st : Stands l c.1 m) : recv1 l c = if ∃ q : m < l.length, scmp l[m].1 c.1 = 0 then l else insL l (m : Int) [c] := by
  have h : ∃ m, Stands l c.1 m := ⟨m, st⟩
  have e : h.choose = m := h.choose_spec.uniq st
  unfold recv1
  rw [dif_pos h]
  simp only [e]
theorem insL_mem {l : List T89} {m : Nat} {n e : T89} (h : e ∈ insL l (m : Int) [n]) : e = n ∨ e ∈ l := by
  unfold insL at h
  simp only [List.mem_append, List.mem_singleton] at h
  rcases h with (h | h) | h
  · exact .inr (List.mem_of_mem_take h)
  · exact .inl h
  · exact .inr (List.mem_of_mem_drop h)
theorem insL_length (l : List T89) (m : Nat) (n : T89) (hm : m ≤ l.length) : (insL l (m : Int) [n]).length = l.length + 1 := by
  unfold insL
  rw [Int.toNat_natCast, List.length_append, List.length_append, List.length_take, List.length_drop]
  simp; omega
theorem recv1_mem {l : List T89} {c e : T89} (h : e ∈ recv1 l c) : e = c ∨ e ∈ l := by
  unfold recv1 at h
  split at h
  · split at h
    · exact .inr h
    · exact insL_mem h
  · exact .inr h
theorem recv1_len (l : List T89) (c : T89) : (recv1 l c).length ≤ l.length + 1 := by
  unfold recv1
  split
  · rename_i h
    split
    · omega
    · rw [insL_length _ _ _ h.choose_spec.le]; exact Nat.le_refl _
  · omega
theorem recv1_rising {l : List T89} (hp : rising l) {c : T89} {m : Nat} (st : Stands l c.1 m) : rising (recv1 l c) := by
  rw [recv1_eq st]
  split
  · exact hp
  · rename_i hne
    have hq := List.pairwise_iff_getElem.1 hp
    have hp2 := hp
    unfold rising at hp2
    rw [← List.take_append_drop m l, List.pairwise_append] at hp2
    obtain ⟨p1, p2, p3⟩ := hp2
    have q1 : ∀ x ∈ l.take m, scmp x.1 c.1 < 0 := fun x hx => by
      obtain ⟨i, hi, rfl⟩ := List.getElem_of_mem hx
      rw [List.length_take] at hi
      rw [List.getElem_take]
      exact st.lt i (by omega) (by omega)
    have q2 : ∀ x ∈ l.drop m, scmp c.1 x.1 < 0 := fun x hx => by
      obtain ⟨i, hi, rfl⟩ := List.getElem_of_mem hx
      rw [List.length_drop] at hi
      rw [List.getElem_drop]
      have h1 := st.ge (m + i) (by omega) (by omega)
      have h2 : scmp (l[m + i]'(by omega)).1 c.1 ≠ 0 := fun z => by
        by_cases hi0 : i = 0
        · subst hi0; exact hne ⟨by omega, z⟩
        · have h3 := hq m (m + i) (by omega) (by omega) (by omega)
          rw [ordS.same2 _ _ _ z] at h3
          exact st.ge m (by omega) (Nat.le_refl _) h3
      rw [ordS.anti (l[m + i]'(by omega)).1 c.1]; omega
    unfold insL rising
    rw [Int.toNat_natCast, List.append_assoc, List.pairwise_append]
    refine ⟨p1, ?_, fun a ha b hb => ?_⟩
    · rw [List.singleton_append, List.pairwise_cons]
      exact ⟨q2, p2⟩
    · rcases List.mem_append.1 hb with hb | hb
      · rw [List.mem_singleton] at hb; subst hb; exact q1 a ha
      · exact p3 a ha b hb

theorem most104 {n : Nat} (h : n ≤ 1000000) : n ≤ most 104 := by unfold most; omega
theorem bsearch_ev {l : List T89} (hl : l.length ≤ 100000) (hp : rising l) (hf : ∀ e ∈ l, fitSh S89 e) {n : T89} (hn : fitSh S89 n) :
    ∃ m, Stands l n.1 m ∧ ∃ b : Bool, Ev (fun K _ => slices_BinarySearchFunc_impl_DirChange_impl_DirChange_impl_DirChange.f K l n) ((m : Int), b, ()) ∧ (b = true ↔ ∃ h : m < l.length, scmp l[m].1 n.1 = 0) := by
  have cmp : ∀ (t : Nat) (h : t < l.length), Ev (fun K _ => impl_yreceive_1.f K l[t] n) (scmp l[t].1 n.1) := fun t h => by
    have := (impl_ycmpStamp.v_ev l[t].1 n.1 (hf _ (List.getElem_mem h)).1 hn.1).1
    rw [ycmpStamp_eq] at this
    exact Ev.fn (fun k => impl_yreceive_1.f_eq k l[t] n) this.tail
  obtain ⟨m, m1, m2, m3, m4⟩ := bs_loop (L := fun K q i j => slices_BinarySearchFunc_impl_DirChange_impl_DirChange_impl_DirChange.l8 K q l (l.length : Int) i j n.1.1 n.1.2.1 n.2.1 n.2.2.1 n.2.2.2.1 n.2.2.2.2.1.1 n.2.2.2.2.1.2.1 n.2.2.2.2.2.1 n.2.2.2.2.2.2.1) (l := l) (p := fun e => decide (scmp e.1 n.1 < 0))
    (fun i j hi hj hij hq => by
      rw [decide_eq_true_eq] at hq ⊢
      rcases Nat.lt_or_eq_of_le hij with q | rfl
      · exact ordS.trans _ _ _ ((List.pairwise_iff_getElem.1 hp) i j hi hj q) hq
      · exact hq)
    (fun i j h hhl h1 h2 h3 h4 => by
      have e : wrap64 (shrI .u64 (wr .u64 (wrap64 ((i : Int) + (j : Int)))) 1) = (h : Int) := by rw [half_eq _ _ (by omega), h4]
      constructor
      · intro hp r hr
        refine Ev.lp (fun K q => slices_BinarySearchFunc_impl_DirChange_impl_DirChange_impl_DirChange.l8_eq K q l _ i j n.1.1 n.1.2.1 n.2.1 n.2.2.1 n.2.2.2.1 n.2.2.2.2.1.1 n.2.2.2.2.1.2.1 n.2.2.2.2.2.1 n.2.2.2.2.2.2.1) (Ev.yes (by omega) ?_)
        rw [e]
        refine Ev.yes (by omega) ?_
        rw [rd_at _ _ _ hhl, wrap_nat (by omega)]
        exact (cmp h hhl).bind (Ev.yes (of_decide_eq_true hp) hr)
      · intro hp r hr
        refine Ev.lp (fun K q => slices_BinarySearchFunc_impl_DirChange_impl_DirChange_impl_DirChange.l8_eq K q l _ i j n.1.1 n.1.2.1 n.2.1 n.2.2.1 n.2.2.2.1 n.2.2.2.2.1.1 n.2.2.2.2.1.2.1 n.2.2.2.2.2.1 n.2.2.2.2.2.2.1) (Ev.yes (by omega) ?_)
        rw [e]
        refine Ev.yes (by omega) ?_
        rw [rd_at _ _ _ hhl, wrap_nat (by omega)]
        exact (cmp h hhl).bind (Ev.no (of_decide_eq_false hp) hr))
    l.length 0 l.length (by omega) (Nat.le_refl _) (fun t _ h => by omega) (fun t h h' => by omega)
  have st : Stands l n.1 m := ⟨m1, fun t h ht => of_decide_eq_true (m2 t h ht), fun t h ht => of_decide_eq_false (m3 t h ht)⟩
  by_cases q : m < l.length
  · refine ⟨m, st, decide (scmp l[m].1 n.1 = 0), Ev.fn (fun k => slices_BinarySearchFunc_impl_DirChange_impl_DirChange_impl_DirChange.f_eq k l n) (Ev.diag (m4 _ ?_)), ?_⟩
    · refine Ev.lp (fun K q => slices_BinarySearchFunc_impl_DirChange_impl_DirChange_impl_DirChange.l8_eq K q l _ m m n.1.1 n.1.2.1 n.2.1 n.2.2.1 n.2.2.2.1 n.2.2.2.2.1.1 n.2.2.2.2.1.2.1 n.2.2.2.2.2.1 n.2.2.2.2.2.2.1) (Ev.no (by omega) (Ev.yes (by omega) (Ev.yes (by omega) ?_)))
      rw [rd_at _ _ _ q]
      exact (cmp m q).bind (Ev.now _)
    · rw [decide_eq_true_eq]
      exact ⟨fun h => ⟨q, h⟩, fun ⟨_, h⟩ => h⟩
  · refine ⟨m, st, false, Ev.fn (fun k => slices_BinarySearchFunc_impl_DirChange_impl_DirChange_impl_DirChange.f_eq k l n) (Ev.diag (m4 _ ?_)), ⟨fun h => (by cases h), fun ⟨h, _⟩ => absurd h q⟩⟩
    exact Ev.lp (fun K q => slices_BinarySearchFunc_impl_DirChange_impl_DirChange_impl_DirChange.l8_eq K q l _ m m n.1.1 n.1.2.1 n.2.1 n.2.2.1 n.2.2.2.1 n.2.2.2.2.1.1 n.2.2.2.2.1.2.1 n.2.2.2.2.2.1 n.2.2.2.2.2.2.1) (Ev.no (by omega) (Ev.no (by omega) (Ev.now _)))
theorem insert_ev (l : List T89) (m : Nat) (n : T89) (hm : m ≤ l.length) (hl : l.length ≤ 100000) : Ev (fun K _ => slices_Insert_impl_DirChange_impl_DirChange_m.f K l (m : Int) [n]) (insL l (m : Int) [n], ()) := by
  refine Ev.fn (fun k => slices_Insert_impl_DirChange_impl_DirChange_m.f_eq k l m [n]) ?_
  have h1 : 0 ≤ (m : Int) ∧ (m : Int) ≤ (List.length l : Nat) ∧ 0 < [n].length ∧ l.length + [n].length ≤ 1000000 := ⟨by omega, by omega, by simp, by simp; omega⟩
  have e : insEqC S89 l (m : Int) [n] = some (insL l (m : Int) [n], ()) := (insEqC_eq S89 l (m : Int) [n]).trans (if_pos h1)
  exact ⟨0, fun _ _ _ _ => e⟩
theorem clone_ev (l : List T89) (hl : l.length ≤ 100000) : Ev (fun K _ => slices_Clone_impl_DirChange_impl_DirChange_m.f K l) (l, ()) := by
  refine Ev.fn (fun k => slices_Clone_impl_DirChange_impl_DirChange_m.f_eq k l) ?_
  by_cases h : l.length = 0
  · obtain rfl := List.eq_nil_of_length_eq_zero h
    refine Ev.yes (by simp) (Ev.allK (n := 2) (by omega) fun i hi => ?_)
    exact Ev.ite (fun _ => Ev.now _) fun _ => Ev.yes (most104 (by simp)) (Ev.now _)
  · exact Ev.no (by omega) (Ev.yes (most104 (by simp; omega)) (Ev.some (by simp [app])))
noncomputable def recvL (l more : List T89) : List T89 := more.foldl recv1 l
/-- where it stands: there is such a place -/
theorem stands_ex (l : List T89) (hp : rising l) (s : T85) : ∃ m, Stands l s m := by
  induction l with
  | nil => exact ⟨0, by simp, fun t h => by simp at h, fun t h => by simp at h⟩
  | cons a l ih =>
    have hp0 := hp
    unfold rising at hp
    rw [List.pairwise_cons] at hp
    by_cases q : scmp a.1 s < 0
    · obtain ⟨m, h1, h2, h3⟩ := ih hp.2
      refine ⟨m + 1, by simp; omega, fun t h ht => ?_, fun t h ht => ?_⟩
      · cases t with
        | zero => exact q
        | succ t => exact h2 t (by simpa using h) (by omega)
      · cases t with
        | zero => omega
        | succ t => exact h3 t (by simpa using h) (by omega)
    · refine ⟨0, Nat.zero_le _, fun t h ht => by omega, fun t h ht => ?_⟩
      cases t with
      | zero => exact q
      | succ t =>
        intro z
        exact q (ordS.trans _ _ _ (hp.1 _ (List.getElem_mem (by simpa using h))) z)
theorem recvL_rising : ∀ (more l : List T89), rising l → rising (recvL l more)
  | [], l, h => h
  | c :: more, l, h => recvL_rising more _ (by obtain ⟨m, st⟩ := stands_ex l h c.1; exact recv1_rising h st)
theorem recvL_mem : ∀ (more l : List T89), ∀ e ∈ recvL l more, e ∈ l ∨ e ∈ more
  | [], l, e, h => .inl h
  | c :: more, l, e, h => by
    rcases recvL_mem more _ e h with z | z
    · rcases recv1_mem z with rfl | z
      · exact .inr List.mem_cons_self
      · exact .inl z
    · exact .inr (List.mem_cons_of_mem _ z)
theorem eqStampD {a b : T85} : eqD S85 a b = true ↔ a = b := eqD_iff S85 a b rfl
theorem cut_take {α : Type} (l : List α) (m : Nat) : cut l 0 (0 + (m : Int)) = l.take m := by
  unfold cut
  simp
theorem cut_drop {α : Type} (l : List α) (m : Nat) : cut l (m : Int) ((m : Int) + ((l.length : Int) - (m : Int))) = l.drop m := by
  unfold cut
  rw [show ((m : Int) + ((l.length : Int) - (m : Int))).toNat = l.length by omega, Int.toNat_natCast, List.take_length]
/-- the law's own way -/
theorem recv_find (more : List T89) (i : Int) (l : List T89) (hl : l.length ≤ 100000) (hf : ∀ e ∈ l, fitSh S89 e) (n : T89) (hn : fitSh S89 n) {m : Nat} (st : Stands l n.1 m) (r : List T89)
    (hr : Ev (fun K j => spec_l4Receive.l10 K j more (more.length : Int) (wrap64 (i + 1)) (recv1 l n)) r) : ∀ (d k : Nat), m = k + d → Ev (fun K j => spec_l4Receive.l25 K j (k : Int) more (more.length : Int) i l n.1.1 n.1.2.1 n.2.1 n.2.2.1 n.2.2.2.1 n.2.2.2.2.1.1 n.2.2.2.2.1.2.1 n.2.2.2.2.2.1 n.2.2.2.2.2.2.1) r
  | 0, k, h => by
    obtain rfl : m = k := by omega
    have hle := st.le
    have hap : recv1 l n = if ∃ q : m < l.length, scmp l[m].1 n.1 = 0 then l else insL l (m : Int) [n] := by
      rw [recv1_eq st]
    have put : ¬ (∃ q : m < l.length, scmp l[m].1 n.1 = 0) → Ev (fun K j => (if 0 ≤ (0 : Int) ∧ (0 : Int) ≤ (m : Int) ∧ (m : Int) ≤ (l.length : Int) then (if 0 ≤ (m : Int) ∧ (m : Int) ≤ (l.length : Int) ∧ (l.length : Int) ≤ (l.length : Int) then (allK (2 : Int) fun i1 => (if (i1 : Int) = 0 then (if (cut l 0 (0 + (m : Int))).length ≤ most 104 then (if (cut l 0 (0 + (m : Int))).length + [n].length ≤ most 104 then (if (app (cut l 0 (0 + (m : Int))) [n]).length + (cut l (m : Int) ((m : Int) + ((l.length : Int) - (m : Int)))).length ≤ most 104 then (spec_l4Receive.l10 K j more (more.length : Int) (wrap64 (i + 1)) (app (app (cut l 0 (0 + (m : Int))) [n]) (cut l (m : Int) ((m : Int) + ((l.length : Int) - (m : Int)))))) else none) else none) else none) else (if (cut l 0 (0 + (m : Int))).length ≤ most 104 then (if (cut l 0 (0 + (m : Int))).length + [n].length ≤ most 104 then (if (app (cut l 0 (0 + (m : Int))) [n]).length + (cut l (m : Int) ((m : Int) + ((l.length : Int) - (m : Int)))).length ≤ most 104 then (spec_l4Receive.l10 K j more (more.length : Int) (wrap64 (i + 1)) (app (app (cut l 0 (0 + (m : Int))) [n]) (cut l (m : Int) ((m : Int) + ((l.length : Int) - (m : Int)))))) else none) else none) else none))) else none) else none)) r := fun hne => by
      rw [hap, if_neg hne] at hr
      have e : app (app (l.take m) [n]) (l.drop m) = insL l (m : Int) [n] := rfl
      rw [cut_take, cut_drop, e]
      have h1 : (l.take m).length ≤ l.length := List.length_take_le' m l
      have h2 : (l.drop m).length ≤ l.length := by rw [List.length_drop]; omega
      have one : Ev (fun K j => (if (l.take m).length ≤ most 104 then (if (l.take m).length + [n].length ≤ most 104 then (if (app (l.take m) [n]).length + (l.drop m).length ≤ most 104 then (spec_l4Receive.l10 K j more (more.length : Int) (wrap64 (i + 1)) (insL l (m : Int) [n])) else none) else none) else none)) r :=
        Ev.yes (most104 (by omega)) (Ev.yes (most104 (by simp; omega)) (Ev.yes (most104 (by unfold app; rw [List.length_append]; simp; omega)) hr))
      refine Ev.yes (by omega) (Ev.yes (by omega) (Ev.allK (n := 2) (by omega) fun q hq => ?_))
      exact Ev.ite (fun _ => one) fun _ => one
    refine Ev.lp (fun K j => spec_l4Receive.l25_eq K j m more _ i l n.1.1 n.1.2.1 n.2.1 n.2.2.1 n.2.2.2.1 n.2.2.2.2.1.1 n.2.2.2.2.1.2.1 n.2.2.2.2.2.1 n.2.2.2.2.2.2.1) ?_
    by_cases h0 : m < l.length
    · have hc := (spec_l4Cmp.v_ev l[m].1 n.1 (hf _ (List.getElem_mem h0)).1 hn.1).1
      rw [l4Cmp_eq] at hc
      have hge := st.ge m h0 (Nat.le_refl _)
      refine Ev.yes (by omega) (Ev.yes (by omega) ?_)
      rw [rd_at _ _ _ h0]
      refine hc.bind (Ev.no hge (Ev.yes (by omega) (Ev.yes (by omega) ?_)))
      refine Ev.ite (fun w => ?_) fun w => put fun ⟨_, z⟩ => w (eqStampD.2 (scmp_zero.1 z))
      rw [hap, if_pos ⟨h0, scmp_zero.2 (eqStampD.1 w)⟩] at hr
      exact hr
    · exact Ev.no (by omega) (Ev.no (by omega) (put fun ⟨z, _⟩ => h0 z))
  | d + 1, k, h => by
    have hle := st.le
    have h0 : k < l.length := by omega
    have hc := (spec_l4Cmp.v_ev l[k].1 n.1 (hf _ (List.getElem_mem h0)).1 hn.1).1
    rw [l4Cmp_eq] at hc
    refine Ev.lp (fun K j => spec_l4Receive.l25_eq K j k more _ i l n.1.1 n.1.2.1 n.2.1 n.2.2.1 n.2.2.2.1 n.2.2.2.2.1.1 n.2.2.2.2.1.2.1 n.2.2.2.2.2.1 n.2.2.2.2.2.2.1) (Ev.yes (by omega) (Ev.yes (by omega) ?_))
    rw [rd_at _ _ _ h0, wrap_nat (by omega)]
    exact hc.bind (Ev.yes (st.lt k h0 (by omega)) (recv_find more i l hl hf n hn st r hr d (k + 1) (by omega)))
theorem recv_loop (more : List T89) (hm : more.length ≤ 2000) (hfm : ∀ e ∈ more, fitSh S89 e) : ∀ (d i : Nat) (l : List T89), more.length = i + d → l.length ≤ 2000 + i → (∀ e ∈ l, fitSh S89 e) → rising l →
    Ev (fun K j => spec_l4Receive.l10 K j more (more.length : Int) (i : Int) l) (recvL l (more.drop i))
  | 0, i, l, h, hl, hf, hp => by
    obtain rfl : i = more.length := by omega
    rw [List.drop_length]
    exact Ev.lp (fun K j => spec_l4Receive.l10_eq K j more _ _ l) (Ev.no (by omega) (Ev.now _))
  | d + 1, i, l, h, hl, hf, hp => by
    have hi : i < more.length := by omega
    have hn := hfm _ (List.getElem_mem hi)
    obtain ⟨m, st⟩ := stands_ex l hp more[i].1
    refine Ev.lp (fun K j => spec_l4Receive.l10_eq K j more _ i l) (Ev.yes (by omega) (Ev.yes (by omega) ?_))
    rw [rd_at _ _ _ hi, List.drop_eq_getElem_cons hi]
    refine recv_find more i l (by omega) hf more[i] hn st _ ?_ m 0 (by omega)
    rw [wrap_nat (by omega)]
    have hlen := recv1_len l more[i]
    exact recv_loop more hm hfm d (i + 1) _ (by omega) (by omega) (fun e he => (recv1_mem he).elim (fun z => z ▸ hn) (hf e)) (recv1_rising hp st)
theorem l4Receive_ev (l more : List T89) (hl : l.length ≤ 2000) (hf : ∀ e ∈ l, fitSh S89 e) (hp : rising l) (hm : more.length ≤ 2000) (hfm : ∀ e ∈ more, fitSh S89 e) : Ev (fun K _ => spec_l4Receive.f K l more) (recvL l more) := by
  have := recv_loop more hm hfm more.length 0 l (by omega) (by omega) hf hp
  rw [List.drop_zero] at this
  exact Ev.fn (fun k => spec_l4Receive.f_eq k l more) (Ev.yes (most104 (by omega)) (Ev.diag this))
theorem yreceive_loop (more : List T89) (hm : more.length ≤ 2000) (hfm : ∀ e ∈ more, fitSh S89 e) : ∀ (d i : Nat) (l : List T89), more.length = i + d → l.length ≤ 2000 + i → (∀ e ∈ l, fitSh S89 e) → rising l →
    Ev (fun K j => impl_yreceive_m.l16 K j more (more.length : Int) (i : Int) l) (if (more.drop i).all spec_GoodChange.v = true then (decide ((recvL l (more.drop i)).length ≤ 200), (recvL l (more.drop i), ())) else (false, ([], ())))
  | 0, i, l, h, hl, hf, hp => by
    obtain rfl : i = more.length := by omega
    rw [List.drop_length, List.all_nil, if_pos rfl]
    exact Ev.lp (fun K j => impl_yreceive_m.l16_eq K j more _ _ l) (Ev.no (by omega) (Ev.some (by
      show (decide ((l.length : Int) ≤ 200), l, ()) = (decide (l.length ≤ 200), l, ())
      rw [decide_eq_decide.2 (show (l.length : Int) ≤ 200 ↔ l.length ≤ 200 by omega)])))
  | d + 1, i, l, h, hl, hf, hp => by
    have hi : i < more.length := by omega
    have hn := hfm _ (List.getElem_mem hi)
    have hg := (impl_GoodChange.v_ev more[i] hn).1
    rw [change_same] at hg
    refine Ev.lp (fun K j => impl_yreceive_m.l16_eq K j more _ i l) (Ev.yes (by omega) (Ev.yes (by omega) ?_))
    rw [rd_at _ _ _ hi, List.drop_eq_getElem_cons hi, List.all_cons]
    by_cases g : spec_GoodChange.v more[i] = true
    · rw [g, Bool.true_and]
      obtain ⟨m, st, b, eb, hb⟩ := bsearch_ev (by omega) hp hf hn
      have hlen := recv1_len l more[i]
      have ih := yreceive_loop more hm hfm d (i + 1) (recv1 l more[i]) (by omega) (by omega) (fun e he => (recv1_mem he).elim (fun z => z ▸ hn) (hf e)) (recv1_rising hp st)
      refine hg.bind (Ev.yes g (eb.bind ?_))
      rw [wrap_nat (by omega)]
      show Ev _ (if (more.drop (i + 1)).all spec_GoodChange.v = true then (decide ((recvL (recv1 l more[i]) (more.drop (i + 1))).length ≤ 200), (recvL (recv1 l more[i]) (more.drop (i + 1)), ())) else (false, ([], ())))
      rw [recv1_eq st] at ih ⊢
      by_cases q : b = true
      · rw [if_pos (hb.1 q)] at ih ⊢
        exact Ev.yes q ih
      · rw [if_neg (fun z => q (hb.2 z))] at ih ⊢
        exact Ev.no q ((insert_ev l m more[i] st.le (by omega)).bind ih)
    · rw [Bool.eq_false_iff.2 g, Bool.false_and, if_neg (by simp)]
      exact hg.bind (Ev.no g (Ev.now _))
/-- what is received -/
theorem yreceive_ev (l more : List T89) (hf : fitSh (.list S89) l) (hfm : fitSh (.list S89) more) :
    Ev (fun K _ => impl_yreceive_m.f K l more) (if spec_GoodLog.v l = true ∧ more.length ≤ 1000 ∧ more.all spec_GoodChange.v = true then (decide ((recvL l more).length ≤ 200), (recvL l more, ())) else (false, ([], ()))) := by
  have e2 := (impl_GoodLog.v_ev l hf).1
  rw [log_same] at e2
  refine Ev.fn (fun k => impl_yreceive_m.f_eq k l more) (e2.bind ?_)
  by_cases h : spec_GoodLog.v l = true
  · refine Ev.yes h ?_
    by_cases hm : (more.length : Int) > 1000
    · rw [if_neg (fun z => by omega)]
      exact Ev.yes hm (Ev.now _)
    · have hl := log_len h
      refine Ev.no hm ((clone_ev l (by omega)).bind ?_)
      have := yreceive_loop more (by omega) hfm.2 more.length 0 l (by omega) (by omega) hf.2 (log_rising h)
      rw [List.drop_zero] at this
      by_cases g : more.all spec_GoodChange.v = true
      · rw [if_pos g] at this
        rw [if_pos ⟨h, by omega, g⟩]
        exact Ev.diag this
      · rw [if_neg g] at this
        rw [if_neg (fun z => g z.2.2)]
        exact Ev.diag this
  · rw [if_neg (fun z => h z.1)]
    exact Ev.no h (Ev.now _)

/-! ### what the law's measure leaves: everything is short -/
def smSh : (s : Sh) → sem s → Prop
  | .int k, x => (Lit.int k x).wf = true
  | .bool, _ => True
  | .str, s => (s : ByteArray).size ≤ 1048576
  | .unit, _ => True
  | .pair a b, x => smSh a x.1 ∧ smSh b x.2
  | .list t, l => (l : List (sem t)).length ≤ 1048576 ∧ allIn (α := sem t) l (smSh t)
theorem SzP.len {g : Nat → Nat → Option Int} {m : Int} {P : Prop} (h : SzP g m P) (q : P) : SzP g m P := h
/-- a loop that measures a row's elements -/
theorem sz_row {α : Type} {L : Nat → Nat → Int → Int → Option Int} {l : List α} {P : α → Prop}
    (step : ∀ (i : Nat) (h : i < l.length) (m : Int), 0 ≤ m → m ≤ 1048576 → ∃ r, -1 ≤ r ∧ r ≤ m ∧ (0 ≤ r → P l[i]) ∧ (r < 0 → Ev (fun K j => L K j m (i : Int)) (-1)) ∧ (0 ≤ r → ∀ s, Ev (fun K j => L K j r ((i + 1 : Nat) : Int)) s → Ev (fun K j => L K j m (i : Int)) s))
    (done : ∀ m : Int, Ev (fun K j => L K j m (l.length : Int)) m) : ∀ (d i : Nat) (m : Int), l.length = i + d → 0 ≤ m → m ≤ 1048576 → SzP (fun K j => L K j m (i : Int)) m (∀ x ∈ l.drop i, P x) := by
  intro d
  induction d with
  | zero =>
    intro i m h h0 h1
    obtain rfl : i = l.length := by omega
    exact ⟨m, done m, by omega, by omega, fun _ x hx => by rw [List.drop_length] at hx; cases hx⟩
  | succ d ih =>
    intro i m h h0 h1
    obtain ⟨r, r1, r2, r3, r4, r5⟩ := step i (by omega) m h0 h1
    by_cases hr : r < 0
    · exact ⟨-1, r4 hr, by omega, by omega, fun h => by omega⟩
    · obtain ⟨s, q, q1, q2, q3⟩ := ih (i + 1) r (by omega) (by omega) (by omega)
      refine ⟨s, r5 (by omega) s q, q1, by omega, fun hs x hx => ?_⟩
      rw [List.drop_eq_getElem_cons (show i < l.length by omega)] at hx
      rcases List.mem_cons.1 hx with rfl | hx
      · exact r3 (by omega)
      · exact q3 hs x hx
theorem SzP.loop {L : Nat → Nat → Int → Int → Option Int} {m : Int} {P P' : Prop} (h : SzP (fun K j => L K j m 0) m P) (hp : P → P') : SzP (fun K _ => L K K m 0) m P' := by
  obtain ⟨r, q, q1, q2, q3⟩ := h
  exact ⟨r, Ev.diag q, q1, q2, fun z => hp (q3 z)⟩

/-! ### marks: what markX writes, heldX finds -/
theorem markText_loop : ∀ (n x : Nat) (s : ByteArray), x < 10 ^ n → n ≤ 20 → x ≤ 9000000000000000000 → s.size + n ≤ 1000 → ∃ r, Ev (fun K j => laws_markText.l14 K j (x : Int) s) r
  | 0, x, s, hx, hn, hb, hs => by
    have h0 : x = 0 := by simpa using hx
    subst h0
    exact ⟨_, Ev.lp (fun K j => laws_markText.l14_eq K j _ s) (Ev.no (by omega) (Ev.yes (by show 1 + s.size ≤ lim; unfold lim; omega) (Ev.now _)))⟩
  | n + 1, x, s, hx, hn, hb, hs => by
    by_cases h : x = 0
    · subst h
      exact ⟨_, Ev.lp (fun K j => laws_markText.l14_eq K j _ s) (Ev.no (by omega) (Ev.yes (by show 1 + s.size ≤ lim; unfold lim; omega) (Ev.now _)))⟩
    · have e : wrap64 (quoI (x : Int) 10) = ((x / 10 : Nat) : Int) := by
        unfold quoI
        rw [Int.tdiv_eq_ediv_of_nonneg (by omega), wrap_id (by omega) (by omega)]
        omega
      have hs1 : (appS (utfB [(wr .u8 (wrap64 (48 + (remI (x : Int) 10))))]) s).size = 1 + s.size := by
        unfold appS
        rw [ByteArray.size_append]; rfl
      obtain ⟨r, hr⟩ := markText_loop n (x / 10) (appS (utfB [(wr .u8 (wrap64 (48 + (remI (x : Int) 10))))]) s) (by rw [Nat.pow_succ] at hx; omega) (by omega) (by omega) (by omega)
      refine ⟨r, Ev.lp (fun K j => laws_markText.l14_eq K j _ s) (Ev.yes (by omega) (Ev.yes (by show 1 + s.size ≤ lim; unfold lim; omega) ?_))⟩
      rw [e]
      exact hr
theorem markText_ev (k : Int) (h : 0 ≤ k ∧ k ≤ 9000000000000000000) : ∃ r, Ev (fun K _ => laws_markText.f K k) r := by
  by_cases h0 : k ≤ 0
  · exact ⟨_, Ev.fn (fun q => laws_markText.f_eq q k) (Ev.yes h0 (Ev.now _))⟩
  · obtain ⟨r, hr⟩ := markText_loop 19 k.toNat ⟨#[]⟩ (by omega) (by omega) (by omega) (by show 0 + 19 ≤ 1000; omega)
    rw [Int.toNat_of_nonneg (by omega)] at hr
    exact ⟨r, Ev.fn (fun q => laws_markText.f_eq q k) (Ev.no h0 (Ev.diag hr))⟩
open Classical in
noncomputable def mkT (k : Int) : ByteArray := if h : 0 ≤ k ∧ k ≤ 9000000000000000000 then Classical.choose (markText_ev k h) else ⟨#[]⟩
theorem mkT_ev {k : Int} (h0 : 0 ≤ k) (h1 : k ≤ 9000000000000000000) : Ev (fun K _ => laws_markText.f K k) (mkT k) := by
  unfold mkT
  rw [dif_pos ⟨h0, h1⟩]
  exact Classical.choose_spec (markText_ev k ⟨h0, h1⟩)
theorem Ev.slet {α β : Type} {f : Nat → Nat → α → Option β} {a : α} {r : β} (h : Ev (fun K j => f K j a) r) : Ev (fun K j => (some a).bind (f K j)) r := h
theorem copy_loopW {α β : Type} {W : List α → β} {L : Nat → Nat → Int → List α → Option β} {l : List α}
    (step : ∀ (i : Nat) (h : i < l.length) (y : List α), y.length = l.length → ∀ r, Ev (fun K j => L K j ((i + 1 : Nat) : Int) (put y (i : Int) l[i])) r → Ev (fun K j => L K j (i : Int) y) r)
    (done : ∀ y : List α, Ev (fun K j => L K j (l.length : Int) y) (W y)) : ∀ (d i : Nat) (y : List α), l.length = i + d → y.length = l.length → y.take i = l.take i → Ev (fun K j => L K j (i : Int) y) (W l) := by
  intro d
  induction d with
  | zero =>
    intro i y h hy ht
    obtain rfl : i = l.length := by omega
    rw [List.take_length, ← hy, List.take_length] at ht
    subst ht
    exact done y
  | succ d ih =>
    intro i y h hy ht
    refine step i (by omega) y hy _ (ih (i + 1) _ (by omega) (by unfold put; rw [List.length_set]; exact hy) ?_)
    unfold put
    rw [Int.toNat_natCast, List.take_succ_eq_append_getElem (by rw [List.length_set]; omega), List.take_succ_eq_append_getElem (show i < l.length by omega), List.getElem_set_self, List.take_set_of_le (Nat.le_refl _), ht]
theorem put_nat {α : Type} (l : List α) (i : Nat) (x : α) : put l (i : Int) x = l.set i x := by unfold put; rw [Int.toNat_natCast]
theorem put_length {α : Type} (l : List α) (i : Int) (x : α) : (put l i x).length = l.length := by unfold put; rw [List.length_set]
theorem put_put {α : Type} (l : List α) (i : Int) (x y : α) : put (put l i x) i y = put l i y := by unfold put; rw [List.set_set]
theorem rd_put {α : Type} (z : α) (l : List α) (i : Nat) (x : α) (h : i < l.length) : rd z (put l (i : Int) x) (i : Int) = x := by
  rw [rd_at _ _ _ (by rw [put_length]; exact h)]
  simp only [put_nat, List.getElem_set_self]
theorem mark_loop {α : Type} {L : Nat → Nat → Int → Int → List α → Option (Int × List α × Unit)} {mk : Int → α → α} {c n : Nat}
    (step : ∀ (i : Nat) (k : Int) (y : List α) (h : i < y.length), y.length = n → 0 ≤ k → k + c ≤ 4000000000000000000 → ∀ r, Ev (fun K j => L K j (k + c) ((i + 1 : Nat) : Int) (put y (i : Int) (mk k y[i]))) r → Ev (fun K j => L K j k (i : Int) y) r)
    (done : ∀ (k : Int) (y : List α), y.length = n → Ev (fun K j => L K j k (n : Int) y) (k, y, ())) :
    ∀ (d i : Nat) (k : Int) (y : List α), y.length = n → n = i + d → 0 ≤ k → k + (c : Int) * d ≤ 4000000000000000000 →
      ∃ y' : List α, y'.length = n ∧ y'.take i = y.take i ∧ (∀ e, e < d → ∃ x, y'[i + e]? = some (mk (k + (c : Int) * e) x)) ∧ Ev (fun K j => L K j k (i : Int) y) (k + (c : Int) * d, y', ())
  | 0, i, k, y, hy, hn, h0, h1 => by
    obtain rfl : n = i := by omega
    refine ⟨y, hy, rfl, fun e he => absurd he (Nat.not_lt_zero _), ?_⟩
    rw [show k + (c : Int) * ((0 : Nat) : Int) = k by simp]
    exact done k y hy
  | d + 1, i, k, y, hy, hn, h0, h1 => by
    have hm : (c : Int) * ((d + 1 : Nat) : Int) = c + (c : Int) * d := by rw [Int.natCast_succ, Int.mul_add, Int.mul_one, Int.add_comm]
    have hcd : 0 ≤ (c : Int) * (d : Int) := Int.mul_nonneg (by omega) (by omega)
    rw [hm] at h1 ⊢
    obtain ⟨y', a1, a2, a3, a4⟩ := mark_loop step done d (i + 1) (k + c) (put y (i : Int) (mk k (y[i]'(by omega)))) (by rw [put_length]; exact hy) (by omega) (by omega) (by omega)
    refine ⟨y', a1, ?_, fun e he => ?_, step i k y (by omega) hy h0 (by omega) _ (by rw [Int.add_assoc] at a4; exact a4)⟩
    · have := congrArg (List.take i) a2
      rw [List.take_take, List.take_take, Nat.min_eq_left (by omega), put_nat, List.take_set_of_le (Nat.le_refl _)] at this
      exact this
    · cases e with
      | zero =>
        refine ⟨y[i]'(by omega), ?_⟩
        have := congrArg (fun l => l[i]?) a2
        simp only [List.getElem?_take] at this
        rw [if_pos (by omega), if_pos (by omega), put_nat, List.getElem?_set_self (by omega)] at this
        rw [show k + (c : Int) * ((0 : Nat) : Int) = k by simp]
        exact this
      | succ e =>
        obtain ⟨x, hx⟩ := a3 e (by omega)
        refine ⟨x, ?_⟩
        rw [show i + (e + 1) = i + 1 + e by omega, hx, show (c : Int) * ((e + 1 : Nat) : Int) = c + (c : Int) * e by rw [Int.natCast_succ, Int.mul_add, Int.mul_one, Int.add_comm], Int.add_assoc]
theorem held_loop {α : Type} {L : Nat → Nat → Int → Int → Option Int} {mk : Int → α → α} {c : Nat} {l : List α}
    (step : ∀ (i : Nat) (k : Int) (h : i < l.length) (x : α), l[i] = mk k x → 0 ≤ k → k + c ≤ 4000000000000000000 → ∀ r, Ev (fun K j => L K j (k + c) ((i + 1 : Nat) : Int)) r → Ev (fun K j => L K j k (i : Int)) r)
    (done : ∀ k : Int, Ev (fun K j => L K j k (l.length : Int)) k) :
    ∀ (d i : Nat) (k : Int), l.length = i + d → 0 ≤ k → k + (c : Int) * d ≤ 4000000000000000000 → (∀ e, e < d → ∃ x, l[i + e]? = some (mk (k + (c : Int) * e) x)) → Ev (fun K j => L K j k (i : Int)) (k + (c : Int) * d)
  | 0, i, k, hn, h0, h1, ha => by
    obtain rfl : i = l.length := by omega
    rw [show k + (c : Int) * ((0 : Nat) : Int) = k by simp]
    exact done k
  | d + 1, i, k, hn, h0, h1, ha => by
    have hm : (c : Int) * ((d + 1 : Nat) : Int) = c + (c : Int) * d := by rw [Int.natCast_succ, Int.mul_add, Int.mul_one, Int.add_comm]
    have hcd : 0 ≤ (c : Int) * (d : Int) := Int.mul_nonneg (by omega) (by omega)
    rw [hm] at h1 ⊢
    obtain ⟨x, hx⟩ := ha 0 (by omega)
    rw [Nat.add_zero, List.getElem?_eq_getElem (by omega), show k + (c : Int) * ((0 : Nat) : Int) = k by simp] at hx
    refine step i k (by omega) x (Option.some.inj hx) h0 (by omega) _ ?_
    rw [← Int.add_assoc]
    refine held_loop step done d (i + 1) (k + c) (by omega) (by omega) (by omega) fun e he => ?_
    obtain ⟨x, hx⟩ := ha (e + 1) (by omega)
    refine ⟨x, ?_⟩
    rw [show i + 1 + e = i + (e + 1) by omega, hx, show (c : Int) * ((e + 1 : Nat) : Int) = c + (c : Int) * e by rw [Int.natCast_succ, Int.mul_add, Int.mul_one, Int.add_comm], Int.add_assoc]

/-! ### the last stamps -/
theorem mget_put {w k v : Int} : ∀ (l : List (Int × Int)), mgetA (α := Int) (β := Int) (eqD (.int .i64)) (0 : Int) (mputA (α := Int) (β := Int) (eqD (.int .i64)) l k v) w = if w = k then v else mgetA (α := Int) (β := Int) (eqD (.int .i64)) (0 : Int) l w := by
  have e : ∀ a b : Int, eqD (.int .i64) a b = decide (a = b) := fun a b => rfl
  intro l
  induction l with
  | nil =>
    simp only [mputA, mgetA, e, decide_eq_true_eq]
  | cons p l ih =>
    simp only [mputA, e, decide_eq_true_eq]
    by_cases h : k = p.1
    · rw [if_pos h]
      simp only [mgetA, e, decide_eq_true_eq]
      by_cases hw : w = p.1
      · rw [if_pos hw, if_pos (by omega)]
      · rw [if_neg hw, if_neg (by omega), if_neg hw]
    · rw [if_neg h]
      simp only [mgetA, e, decide_eq_true_eq]
      by_cases hw : w = p.1
      · rw [if_pos hw, if_neg (by omega), if_pos hw]
      · rw [if_neg hw, ih, if_neg hw]
def lastT (w : Int) : List T89 → Int → Int
  | [], m => m
  | c :: l, m => lastT w l (if c.1.2.1 = w then c.1.1 else m)
theorem vecMap_loop (l : List T89) (hl : l.length ≤ 200) : ∀ (d i : Nat) (y : List (Int × Int)), l.length = i + d →
    ∃ y', (∀ w, mgetA (α := Int) (β := Int) (eqD (.int .i64)) (0 : Int) y' w = lastT w (l.drop i) (mgetA (α := Int) (β := Int) (eqD (.int .i64)) (0 : Int) y w)) ∧ ∀ r, Ev (fun K j => impl_VectorOf.l35 K j 0 y' ([] : List T85)) r → Ev (fun K j => impl_VectorOf.l16 K j l (l.length : Int) (i : Int) y) r
  | 0, i, y, h => by
    obtain rfl : i = l.length := by omega
    exact ⟨y, fun w => by rw [List.drop_length]; rfl, fun r hr => Ev.lp (fun K j => impl_VectorOf.l16_eq K j l _ _ y) (Ev.no (by omega) hr)⟩
  | d + 1, i, y, h => by
    have hi : i < l.length := by omega
    obtain ⟨y', h1, h2⟩ := vecMap_loop l hl d (i + 1) (mputA (α := Int) (β := Int) (eqD (.int .i64)) y l[i].1.2.1 l[i].1.1) (by omega)
    refine ⟨y', fun w => ?_, fun r hr => Ev.lp (fun K j => impl_VectorOf.l16_eq K j l _ i y) (Ev.yes (by omega) (Ev.yes (by omega) (Ev.slet ?_)))⟩
    · rw [h1, List.drop_eq_getElem_cons hi, mget_put]
      show _ = lastT w (l.drop (i + 1)) (if l[i].1.2.1 = w then l[i].1.1 else _)
      by_cases q : w = l[i].1.2.1
      · rw [if_pos q, if_pos q.symm]
      · rw [if_neg q, if_neg (fun z => q z.symm)]
    · rw [rd_at _ _ _ hi, wrap_nat (by omega)]
      exact h2 r hr
def tailV (T : Int → Int) : Nat → Nat → List T85
  | 0, _ => []
  | d + 1, w => (if T (w : Int) > 0 then [(T (w : Int), ((w : Int), ()))] else []) ++ tailV T d (w + 1)
theorem most16 {n : Nat} (h : n ≤ 1000000) : n ≤ most 16 := by unfold most; omega
theorem vecOut_loop (T : Int → Int) (y : List (Int × Int)) (hy : ∀ w, mgetA (α := Int) (β := Int) (eqD (.int .i64)) (0 : Int) y w = T w) : ∀ (d w : Nat) (s : List T85), 100 = w + d → s.length ≤ w → Ev (fun K j => impl_VectorOf.l35 K j (w : Int) y s) (s ++ tailV T d w)
  | 0, w, s, h, hs => by
    rw [show tailV T 0 w = [] from rfl, List.append_nil]
    exact Ev.lp (fun K j => impl_VectorOf.l35_eq K j _ y s) (Ev.no (by omega) (Ev.now _))
  | d + 1, w, s, h, hs => by
    refine Ev.lp (fun K j => impl_VectorOf.l35_eq K j w y s) (Ev.yes (by omega) ?_)
    rw [hy, wrap_nat (by omega)]
    unfold tailV
    by_cases q : T (w : Int) > 0
    · rw [if_pos q, ← List.append_assoc]
      exact Ev.yes q (Ev.yes (most16 (by simp; omega)) (vecOut_loop T y hy d (w + 1) (s ++ [(T (w : Int), ((w : Int), ()))]) (by omega) (by simp; omega)))
    · rw [if_neg q, List.nil_append]
      exact Ev.no q (vecOut_loop T y hy d (w + 1) s (by omega) (by omega))
/-- the law's own way -/
theorem most_loop (l : List T89) (hl : l.length ≤ 200) (hp : rising l) (hg : ∀ e ∈ l, 1 ≤ e.1.1) (w : Nat) (s : List T85) : ∀ (d i : Nat) (m : Int), l.length = i + d → (m = 0 ∨ ∃ t, ∃ h : t < l.length, t < i ∧ l[t].1.2.1 = (w : Int) ∧ l[t].1.1 = m) →
    ∀ r, Ev (fun K j => (if lastT (w : Int) (l.drop i) m > 0 then (if s.length + [(lastT (w : Int) (l.drop i) m, ((w : Int), ()))].length ≤ most 16 then (spec_l4Vector.l8 K j l (wrap64 ((w : Int) + 1)) (app s [(lastT (w : Int) (l.drop i) m, ((w : Int), ()))])) else none) else (spec_l4Vector.l8 K j l (wrap64 ((w : Int) + 1)) s))) r →
      Ev (fun K j => spec_l4Vector.l23 K j l (w : Int) m l (l.length : Int) (i : Int) s) r
  | 0, i, m, h, hm, r, hr => by
    obtain rfl : i = l.length := by omega
    rw [List.drop_length] at hr
    exact Ev.lp (fun K j => spec_l4Vector.l23_eq K j l _ m l _ _ s) (Ev.no (by omega) hr)
  | d + 1, i, m, h, hm, r, hr => by
    have hi : i < l.length := by omega
    rw [List.drop_eq_getElem_cons hi] at hr
    refine Ev.lp (fun K j => spec_l4Vector.l23_eq K j l _ m l _ i s) (Ev.yes (by omega) (Ev.yes (by omega) ?_))
    rw [rd_at _ _ _ hi, wrap_nat (by omega)]
    by_cases q : l[i].1.2.1 = (w : Int)
    · have e : lastT (w : Int) (l[i] :: l.drop (i + 1)) m = lastT (w : Int) (l.drop (i + 1)) l[i].1.1 := by
        show lastT (w : Int) (l.drop (i + 1)) (if l[i].1.2.1 = (w : Int) then l[i].1.1 else m) = _
        rw [if_pos q]
      rw [e] at hr
      have hgt : l[i].1.1 > m := by
        rcases hm with rfl | ⟨t, ht, hti, hw, rfl⟩
        · have := hg _ (List.getElem_mem hi); omega
        · have hc := (List.pairwise_iff_getElem.1 hp) t i ht hi hti
          have hc : (if cmpN l[t].1.1 l[i].1.1 = 0 then cmpN l[t].1.2.1 l[i].1.2.1 else cmpN l[t].1.1 l[i].1.1) < 0 := hc
          by_cases z : cmpN l[t].1.1 l[i].1.1 = 0
          · rw [if_pos z, hw, q, cmpN_zero.2 rfl] at hc; omega
          · rw [if_neg z] at hc
            unfold cmpN at hc
            split at hc
            · omega
            · split at hc <;> omega
      exact Ev.yes q (Ev.yes hgt (most_loop l hl hp hg w s d (i + 1) _ (by omega) (.inr ⟨i, hi, by omega, q, rfl⟩) r hr))
    · have e : lastT (w : Int) (l[i] :: l.drop (i + 1)) m = lastT (w : Int) (l.drop (i + 1)) m := by
        show lastT (w : Int) (l.drop (i + 1)) (if l[i].1.2.1 = (w : Int) then l[i].1.1 else m) = _
        rw [if_neg q]
      rw [e] at hr
      exact Ev.no q (most_loop l hl hp hg w s d (i + 1) m (by omega) (hm.imp id fun ⟨t, a, b, c⟩ => ⟨t, a, by omega, c⟩) r hr)
theorem vector_loop (l : List T89) (hl : l.length ≤ 200) (hp : rising l) (hg : ∀ e ∈ l, 1 ≤ e.1.1) : ∀ (d w : Nat) (s : List T85), 100 = w + d → s.length ≤ w → Ev (fun K j => spec_l4Vector.l8 K j l (w : Int) s) (s ++ tailV (fun w => lastT w l 0) d w)
  | 0, w, s, h, hs => by
    rw [show tailV _ 0 w = [] from rfl, List.append_nil]
    exact Ev.lp (fun K j => spec_l4Vector.l8_eq K j l _ s) (Ev.no (by omega) (Ev.now _))
  | d + 1, w, s, h, hs => by
    refine Ev.lp (fun K j => spec_l4Vector.l8_eq K j l w s) (Ev.yes (by omega) ?_)
    refine most_loop l hl hp hg w s l.length 0 0 (by omega) (.inl rfl) _ ?_
    rw [List.drop_zero, wrap_nat (by omega)]
    unfold tailV
    by_cases q : lastT (w : Int) l 0 > 0
    · rw [if_pos q, ← List.append_assoc]
      exact Ev.yes q (Ev.yes (most16 (by simp; omega)) (vector_loop l hl hp hg d (w + 1) (s ++ [(lastT (w : Int) l 0, ((w : Int), ()))]) (by omega) (by simp; omega)))
    · rw [if_neg q, List.nil_append]
      exact Ev.no q (vector_loop l hl hp hg d (w + 1) s (by omega) (by omega))
def vecOf (l : List T89) : List T85 := tailV (fun w => lastT w l 0) 100 0
theorem tailV_who (T : Int → Int) : ∀ (d w : Nat), (∀ s ∈ tailV T d w, (w : Int) ≤ s.2.1 ∧ s.2.1 < ((w + d : Nat) : Int)) ∧ (tailV T d w).Pairwise (fun a b => a.2.1 < b.2.1) ∧ (tailV T d w).length ≤ d
  | 0, w => ⟨fun s hs => (by cases hs), List.Pairwise.nil, Nat.le_refl _⟩
  | d + 1, w => by
    obtain ⟨h1, h2, h3⟩ := tailV_who T d (w + 1)
    unfold tailV
    by_cases q : T (w : Int) > 0
    · rw [if_pos q]
      refine ⟨fun s hs => ?_, ?_, by simp; omega⟩
      · rcases List.mem_append.1 hs with hs | hs
        · rw [List.mem_singleton] at hs; subst hs; exact ⟨Int.le_refl _, by show (w : Int) < _; omega⟩
        · have := h1 s hs; omega
      · rw [List.singleton_append, List.pairwise_cons]
        exact ⟨fun s hs => by have := h1 s hs; show (w : Int) < s.2.1; omega, h2⟩
    · rw [if_neg q, List.nil_append]
      exact ⟨fun s hs => by have := h1 s hs; omega, h2, by omega⟩
theorem change_time {c : T89} (h : spec_GoodChange.v c = true) : 1 ≤ c.1.1 := by
  unfold spec_GoodChange.v at h
  by_cases q : c.1.1 < 1
  · rw [if_pos q] at h; cases h
  · omega
theorem log_good {l : List T89} (h : spec_GoodLog.v l = true) : ∀ e ∈ l, spec_GoodChange.v e = true := by
  unfold spec_GoodLog.v at h
  split at h
  · cases h
  · exact log_all l l 0 h
theorem l4Vector_ev {l : List T89} (h : spec_GoodLog.v l = true) : Ev (fun K _ => spec_l4Vector.f K l) (vecOf l) := by
  have := vector_loop l (log_len h) (log_rising h) (fun e he => change_time (log_good h e he)) 100 0 [] rfl (by simp)
  rw [List.nil_append] at this
  exact Ev.fn (fun k => spec_l4Vector.f_eq k l) (Ev.diag this)
theorem vectorOf_ev {l : List T89} (f : fitSh (.list S89) l) : Ev (fun K _ => impl_VectorOf.f K l) (if spec_GoodLog.v l = true then vecOf l else []) := by
  have e2 := (impl_GoodLog.v_ev l f).1
  rw [log_same] at e2
  refine Ev.fn (fun k => impl_VectorOf.f_eq k l) (e2.bind ?_)
  by_cases h : spec_GoodLog.v l = true
  · rw [if_pos h]
    obtain ⟨y, h1, h2⟩ := vecMap_loop l (log_len h) l.length 0 [] (by omega)
    rw [List.drop_zero] at h1
    have := vecOut_loop (fun w => lastT w l 0) y (fun w => h1 w) 100 0 [] rfl (by simp)
    rw [List.nil_append] at this
    exact Ev.yes h (Ev.diag (h2 _ this))
  · rw [if_neg h]
    exact Ev.no h (Ev.now _)
/-! ### what the other one lacks -/
def knows (v : List T85) (c : T89) : Bool := v.any fun s => decide (s.2.1 = c.1.2.1) && decide (c.1.1 ≤ s.1)
theorem known_loop (v : List T85) (hv : v.length ≤ 100) (l : List T89) (hu : v.Pairwise fun a b => a.2.1 < b.2.1) (n : Int) (q : Int) (y : List T89) (c : T89) : ∀ (d i : Nat) (b : Bool), v.length = i + d →
    (b = true → ∀ s ∈ v.drop i, s.2.1 ≠ c.1.2.1 ∨ True) →
    ∀ r, (Ev (fun K j => (if (b || (v.drop i).any fun s => decide (s.2.1 = c.1.2.1) && decide (c.1.1 ≤ s.1)) = true then (spec_l4Missing.l8 K j v l n (wrap64 (q + 1)) y) else (if y.length + [c].length ≤ most 104 then (spec_l4Missing.l8 K j v l n (wrap64 (q + 1)) (app y [c])) else none))) r) →
      Ev (fun K j => spec_l4Missing.l25 K j v b l n q v (v.length : Int) (i : Int) y c.1.1 c.1.2.1 c.2.1 c.2.2.1 c.2.2.2.1 c.2.2.2.2.1.1 c.2.2.2.2.1.2.1 c.2.2.2.2.2.1 c.2.2.2.2.2.2.1) r
  | 0, i, b, h, _, r, hr => by
    obtain rfl : i = v.length := by omega
    rw [List.drop_length, List.any_nil, Bool.or_false] at hr
    exact Ev.lp (fun K j => spec_l4Missing.l25_eq K j v b l n q v _ _ y _ _ _ _ _ _ _ _ _) (Ev.no (by omega) hr)
  | d + 1, i, b, h, hb, r, hr => by
    have hi : i < v.length := by omega
    rw [List.drop_eq_getElem_cons hi, List.any_cons] at hr
    refine Ev.lp (fun K j => spec_l4Missing.l25_eq K j v b l n q v _ i y _ _ _ _ _ _ _ _ _) (Ev.yes (by omega) (Ev.yes (by omega) ?_))
    rw [rd_at _ _ _ hi, wrap_nat (by omega)]
    cases b with
    | true =>
      rw [Bool.true_or] at hr
      exact Ev.yes rfl (known_loop v hv l hu n q y c d (i + 1) true (by omega) (fun _ _ _ => .inr trivial) r (by rw [Bool.true_or]; exact hr))
    | false =>
      refine Ev.no (by simp) ?_
      rw [Bool.false_or] at hr
      by_cases e : v[i].2.1 = c.1.2.1
      · rw [decide_eq_true e, Bool.true_and] at hr
        exact Ev.yes e (known_loop v hv l hu n q y c d (i + 1) _ (by omega) (fun _ _ _ => .inr trivial) r hr)
      · rw [decide_eq_false e, Bool.false_and, Bool.false_or] at hr
        exact Ev.no e (known_loop v hv l hu n q y c d (i + 1) false (by omega) (fun h => by cases h) r (by rw [Bool.false_or]; exact hr))
theorem missing_loop (v : List T85) (hv : v.length ≤ 100) (hu : v.Pairwise fun a b => a.2.1 < b.2.1) (l : List T89) (hl : l.length ≤ 200) : ∀ (d i : Nat) (y : List T89), l.length = i + d → y.length ≤ i → Ev (fun K j => spec_l4Missing.l8 K j v l (l.length : Int) (i : Int) y) (y ++ (l.drop i).filter fun c => !knows v c)
  | 0, i, y, h, hy => by
    obtain rfl : i = l.length := by omega
    rw [List.drop_length, List.filter_nil, List.append_nil]
    exact Ev.lp (fun K j => spec_l4Missing.l8_eq K j v l _ _ y) (Ev.no (by omega) (Ev.now _))
  | d + 1, i, y, h, hy => by
    have hi : i < l.length := by omega
    refine Ev.lp (fun K j => spec_l4Missing.l8_eq K j v l _ i y) (Ev.yes (by omega) (Ev.yes (by omega) ?_))
    rw [rd_at _ _ _ hi]
    refine known_loop v hv l hu _ i y l[i] v.length 0 false (by omega) (fun h => by cases h) _ ?_
    rw [List.drop_zero, Bool.false_or, wrap_nat (by omega), List.drop_eq_getElem_cons hi, List.filter_cons]
    by_cases q : knows v l[i] = true
    · rw [if_neg (by rw [q]; simp)]
      exact Ev.yes q (missing_loop v hv hu l hl d (i + 1) y (by omega) (by omega))
    · rw [if_pos (by rw [Bool.eq_false_iff.2 q]; rfl)]
      have := missing_loop v hv hu l hl d (i + 1) (y ++ [l[i]]) (by omega) (by simp; omega)
      rw [List.append_assoc] at this
      exact Ev.no q (Ev.yes (most104 (by simp; omega)) this)
theorem l4Missing_ev (l : List T89) (hl : l.length ≤ 200) (v : List T85) (hv : v.length ≤ 100) (hu : v.Pairwise fun a b => a.2.1 < b.2.1) : Ev (fun K _ => spec_l4Missing.f K l v) (l.filter fun c => !knows v c) := by
  have := missing_loop v hv hu l hl l.length 0 [] (by omega) (by simp)
  rw [List.drop_zero, List.nil_append] at this
  exact Ev.fn (fun k => spec_l4Missing.f_eq k l v) (Ev.diag this)
theorem who_loop (v : List T85) (hv : v.length ≤ 100) (c : T89) : ∀ (d i : Nat), v.length = i + d →
    ∃ r : Int, Ev (fun K j => slices_IndexFunc_impl_Stamp_impl_Stamp.l6 K j v c.1.1 c.1.2.1 c.2.1 c.2.2.1 c.2.2.2.1 c.2.2.2.2.1.1 c.2.2.2.2.1.2.1 c.2.2.2.2.2.1 c.2.2.2.2.2.2.1 (v.length : Int) (i : Int)) r ∧ ((r = -1 ∧ ∀ s ∈ v.drop i, s.2.1 ≠ c.1.2.1) ∨ ∃ j, ∃ h : j < v.length, r = j ∧ i ≤ j ∧ v[j].2.1 = c.1.2.1)
  | 0, i, h => by
    obtain rfl : i = v.length := by omega
    exact ⟨-1, Ev.lp (fun K j => slices_IndexFunc_impl_Stamp_impl_Stamp.l6_eq K j v _ _ _ _ _ _ _ _ _ _ _) (Ev.no (by omega) (Ev.now _)), .inl ⟨rfl, fun s hs => by rw [List.drop_length] at hs; cases hs⟩⟩
  | d + 1, i, h => by
    have hi : i < v.length := by omega
    have e1 : Ev (fun K _ => impl_Missing_1.f K v[i] c.1.1 c.1.2.1 c.2.1 c.2.2.1 c.2.2.2.1 c.2.2.2.2.1.1 c.2.2.2.2.1.2.1 c.2.2.2.2.2.1 c.2.2.2.2.2.2.1) (decide (v[i].2.1 = c.1.2.1)) := Ev.fn (fun k => impl_Missing_1.f_eq k _ _ _ _ _ _ _ _ _ _) (Ev.now _)
    by_cases q : v[i].2.1 = c.1.2.1
    · refine ⟨i, Ev.lp (fun K j => slices_IndexFunc_impl_Stamp_impl_Stamp.l6_eq K j v _ _ _ _ _ _ _ _ _ _ i) (Ev.yes (by omega) (Ev.yes (by omega) ?_)), .inr ⟨i, hi, rfl, Nat.le_refl _, q⟩⟩
      rw [rd_at _ _ _ hi]
      exact e1.bind (Ev.yes (decide_eq_true q) (Ev.now _))
    · obtain ⟨r, e, hr⟩ := who_loop v hv c d (i + 1) (by omega)
      refine ⟨r, Ev.lp (fun K j => slices_IndexFunc_impl_Stamp_impl_Stamp.l6_eq K j v _ _ _ _ _ _ _ _ _ _ i) (Ev.yes (by omega) (Ev.yes (by omega) ?_)), ?_⟩
      · rw [rd_at _ _ _ hi, wrap_nat (by omega)]
        exact e1.bind (Ev.no (by simpa using q) e)
      · rcases hr with ⟨h1, h2⟩ | ⟨j, h1, h2, h3, h4⟩
        · refine .inl ⟨h1, fun s hs => ?_⟩
          rw [List.drop_eq_getElem_cons hi] at hs
          rcases List.mem_cons.1 hs with rfl | hs
          · exact q
          · exact h2 s hs
        · exact .inr ⟨j, h1, h2, by omega, h4⟩
theorem knows_none {v : List T85} {c : T89} (h : ∀ s ∈ v, s.2.1 ≠ c.1.2.1) : knows v c = false := by
  unfold knows
  rw [List.any_eq_false]
  intro s hs
  simp [h s hs]
theorem knows_at {v : List T85} (hu : v.Pairwise fun a b => a.2.1 < b.2.1) {c : T89} {j : Nat} (hj : j < v.length) (h : v[j].2.1 = c.1.2.1) : knows v c = decide (c.1.1 ≤ v[j].1) := by
  unfold knows
  rw [Bool.eq_iff_iff, List.any_eq_true, decide_eq_true_eq]
  constructor
  · rintro ⟨s, hs, h1⟩
    simp only [Bool.and_eq_true, decide_eq_true_eq] at h1
    obtain ⟨k, hk, rfl⟩ := List.getElem_of_mem hs
    have hp := List.pairwise_iff_getElem.1 hu
    rcases Nat.lt_trichotomy j k with z | z | z
    · have := hp j k hj hk z; omega
    · subst z; exact h1.2
    · have := hp k j hk hj z; omega
  · intro z
    exact ⟨v[j], List.getElem_mem hj, by simp [h, z]⟩
theorem lack_loop (v : List T85) (hv : v.length ≤ 100) (hu : v.Pairwise fun a b => a.2.1 < b.2.1) (l : List T89) (hl : l.length ≤ 200) : ∀ (d i : Nat) (y : List T89), l.length = i + d → y.length ≤ i → Ev (fun K j => impl_Missing.l39 K j v l (l.length : Int) (i : Int) y) (y ++ (l.drop i).filter fun c => !knows v c)
  | 0, i, y, h, hy => by
    obtain rfl : i = l.length := by omega
    rw [List.drop_length, List.filter_nil, List.append_nil]
    exact Ev.lp (fun K j => impl_Missing.l39_eq K j v l _ _ y) (Ev.no (by omega) (Ev.now _))
  | d + 1, i, y, h, hy => by
    have hi : i < l.length := by omega
    obtain ⟨r, e, hr⟩ := who_loop v hv l[i] v.length 0 (by omega)
    have ei : Ev (fun K _ => slices_IndexFunc_impl_Stamp_impl_Stamp.f K v l[i].1.1 l[i].1.2.1 l[i].2.1 l[i].2.2.1 l[i].2.2.2.1 l[i].2.2.2.2.1.1 l[i].2.2.2.2.1.2.1 l[i].2.2.2.2.2.1 l[i].2.2.2.2.2.2.1) r := Ev.fn (fun k => slices_IndexFunc_impl_Stamp_impl_Stamp.f_eq k _ _ _ _ _ _ _ _ _ _) (Ev.diag e)
    have skip := lack_loop v hv hu l hl d (i + 1) y (by omega) (by omega)
    have add := lack_loop v hv hu l hl d (i + 1) (y ++ [l[i]]) (by omega) (by simp; omega)
    rw [List.append_assoc] at add
    refine Ev.lp (fun K j => impl_Missing.l39_eq K j v l _ i y) (Ev.yes (by omega) (Ev.yes (by omega) ?_))
    rw [rd_at _ _ _ hi, wrap_nat (by omega), List.drop_eq_getElem_cons hi, List.filter_cons]
    refine ei.bind ?_
    rcases hr with ⟨rfl, hn⟩ | ⟨j, hj, rfl, _, hw⟩
    · rw [List.drop_zero] at hn
      rw [if_pos (by rw [knows_none hn]; rfl)]
      exact Ev.yes (by omega) (Ev.yes (most104 (by simp; omega)) add)
    · rw [knows_at hu hj hw]
      refine Ev.no (by omega) (Ev.yes (by omega) ?_)
      rw [rd_at _ _ _ hj]
      by_cases q : l[i].1.1 > v[j].1
      · rw [if_pos (by simp; omega)]
        exact Ev.yes q (Ev.yes (most104 (by simp; omega)) add)
      · rw [if_neg (by simp; omega)]
        exact Ev.no q skip
theorem rise_check (v : List T85) (hv : v.length ≤ 100) (hu : v.Pairwise fun a b => a.2.1 < b.2.1) (l : List T89) (r : List T89) (hr : Ev (fun K j => impl_Missing.l39 K j v l (l.length : Int) 0 ([] : List T89)) r) : ∀ (d i : Nat), v.length = i + d → Ev (fun K j => impl_Missing.l14 K j l v (v.length : Int) (i : Int)) r
  | 0, i, h => by
    obtain rfl : i = v.length := by omega
    exact Ev.lp (fun K j => impl_Missing.l14_eq K j l v _ _) (Ev.no (by omega) hr)
  | d + 1, i, h => by
    have hi : i < v.length := by omega
    have ih := rise_check v hv hu l r hr d (i + 1) (by omega)
    refine Ev.lp (fun K j => impl_Missing.l14_eq K j l v _ i) (Ev.yes (by omega) ?_)
    rw [wrap_nat (by omega)]
    by_cases h0 : (i : Int) > 0
    · have e : wrap64 ((i : Int) - 1) = ((i - 1 : Nat) : Int) := cast_pred (by omega) (by omega)
      refine Ev.yes h0 ?_
      rw [e]
      refine Ev.yes (by omega) (Ev.yes (by omega) ?_)
      rw [rd_at _ _ _ hi, rd_at _ _ _ (show i - 1 < v.length by omega)]
      have := (List.pairwise_iff_getElem.1 hu) (i - 1) i (by omega) hi (by omega)
      exact Ev.no (by omega) ih
    · exact Ev.no h0 ih
theorem missing_ev (l : List T89) (f : fitSh (.list S89) l) (v : List T85) (hv : v.length ≤ 100) (hu : v.Pairwise fun a b => a.2.1 < b.2.1) : Ev (fun K _ => impl_Missing.f K l v) (if spec_GoodLog.v l = true then l.filter (fun c => !knows v c) else []) := by
  have e2 := (impl_GoodLog.v_ev l f).1
  rw [log_same] at e2
  refine Ev.fn (fun k => impl_Missing.f_eq k l v) (e2.bind ?_)
  by_cases h : spec_GoodLog.v l = true
  · rw [if_pos h]
    have := lack_loop v hv hu l (log_len h) l.length 0 [] (by omega) (by simp)
    rw [List.drop_zero, List.nil_append] at this
    exact Ev.yes h (Ev.no (by omega) (Ev.diag (rise_check v hv hu l _ this v.length 0 (by omega))))
  · rw [if_neg h]
    exact Ev.no h (Ev.now _)
theorem toStamp_ev (a : T85) (h : smSh S85 a) : Ev (fun K _ => laws_toStamp.f K a) a := by
  obtain ⟨q0, q1, _⟩ := h
  exact Ev.fn (fun k => laws_toStamp.f_eq k a) (Ev.now _)
theorem eqStamp_ev (a : T85) (h : smSh S85 a) : Ev (fun K _ => laws_eqStamp.f K a a) true := by
  obtain ⟨q0, q1, _⟩ := h
  exact Ev.fn (fun k => laws_eqStamp.f_eq k a a) (Ev.yes rfl (Ev.yes rfl (Ev.now _)))
theorem toPart_ev (a : T24) (h : smSh S24 a) : Ev (fun K _ => laws_toPart.f K a) a := by
  obtain ⟨q0, q1, _⟩ := h
  exact Ev.fn (fun k => laws_toPart.f_eq k a) (Ev.now _)
theorem eqPart_ev (a : T24) (h : smSh S24 a) : Ev (fun K _ => laws_eqPart.f K a a) true := by
  obtain ⟨q0, q1, _⟩ := h
  exact Ev.fn (fun k => laws_eqPart.f_eq k a a) (Ev.yes rfl (Ev.yes rfl (Ev.now _)))
theorem szPart_ok (a : T24) (m : Int) (h0 : 0 ≤ m) (h1 : m ≤ 1048576) (hf : fitSh S24 a) : SzP (fun K _ => laws_szPart.f K a m) m (smSh S24 a) := by
  obtain ⟨q0, q1, _⟩ := hf
  refine SzP.fn (fun k => laws_szPart.f_eq k a m) ?_
  have b0 : a.1.size ≤ 140737488351232 := q0
  have w1 := wrap_id (x := m - (a.1.size : Int)) (by omega) (by omega)
  refine SzP.cut (by omega) fun c1 => ?_
  obtain ⟨m1, e1⟩ : ∃ z, z = wrap64 (m - (a.1.size : Int)) := ⟨_, rfl⟩
  simp only [← e1] at c1 w1 ⊢
  have b1 : a.2.1.size ≤ 140737488351232 := q1
  have w2 := wrap_id (x := m1 - (a.2.1.size : Int)) (by omega) (by omega)
  refine SzP.cut (by omega) fun c2 => ?_
  obtain ⟨m2, e2⟩ : ∃ z, z = wrap64 (m1 - (a.2.1.size : Int)) := ⟨_, rfl⟩
  simp only [← e2] at c2 w2 ⊢
  exact SzP.now (by omega) (by omega) ⟨(show a.1.size ≤ 1048576 by omega), (show a.2.1.size ≤ 1048576 by omega), trivial⟩
theorem toDirChange_ev (a : T89) (h : smSh S89 a) : Ev (fun K _ => laws_toDirChange.f K a) a := by
  obtain ⟨q0, q1, q2, q3, q4, q5, q6, _⟩ := h
  exact Ev.fn (fun k => laws_toDirChange.f_eq k a) ((toStamp_ev _ q0).bind ((toPart_ev _ q4).bind (Ev.now _)))
theorem eqDirChange_ev (a : T89) (h : smSh S89 a) : Ev (fun K _ => laws_eqDirChange.f K a a) true := by
  obtain ⟨q0, q1, q2, q3, q4, q5, q6, _⟩ := h
  exact Ev.fn (fun k => laws_eqDirChange.f_eq k a a) ((eqStamp_ev _ q0).bind (Ev.yes rfl (Ev.yes rfl (Ev.yes rfl (Ev.yes rfl ((eqPart_ev _ q4).bind (Ev.yes rfl (Ev.yes rfl (Ev.yes rfl (Ev.now _))))))))))
theorem szDirChange_ok (a : T89) (m : Int) (h0 : 0 ≤ m) (h1 : m ≤ 1048576) (hf : fitSh S89 a) : SzP (fun K _ => laws_szDirChange.f K a m) m (smSh S89 a) := by
  obtain ⟨q0, q1, q2, q3, q4, q5, q6, _⟩ := hf
  refine SzP.fn (fun k => laws_szDirChange.f_eq k a m) ?_
  refine SzP.bind (szPart_ok _ m (by omega) (by omega) q4) (by omega) fun m1 r1 s1 p4 => ?_
  have b5 : a.2.2.2.2.2.1.size ≤ 140737488351232 := q5
  have w2 := wrap_id (x := m1 - (a.2.2.2.2.2.1.size : Int)) (by omega) (by omega)
  refine SzP.cut (by omega) fun c2 => ?_
  obtain ⟨m2, e2⟩ : ∃ z, z = wrap64 (m1 - (a.2.2.2.2.2.1.size : Int)) := ⟨_, rfl⟩
  simp only [← e2] at c2 w2 ⊢
  have b6 : a.2.2.2.2.2.2.1.size ≤ 140737488351232 := q6
  have w3 := wrap_id (x := m2 - (a.2.2.2.2.2.2.1.size : Int)) (by omega) (by omega)
  refine SzP.cut (by omega) fun c3 => ?_
  obtain ⟨m3, e3⟩ : ∃ z, z = wrap64 (m2 - (a.2.2.2.2.2.2.1.size : Int)) := ⟨_, rfl⟩
  simp only [← e3] at c3 w3 ⊢
  exact SzP.now (by omega) (by omega) ⟨(show smSh S85 a.1 from q0), q1, q2, q3, p4, (show a.2.2.2.2.2.1.size ≤ 1048576 by omega), (show a.2.2.2.2.2.2.1.size ≤ 1048576 by omega), trivial⟩
theorem toDirChangeS_ev (l : List T89) (hl : smSh (.list S89) l) : Ev (fun K _ => laws_toDirChangeS_m.f K l) (l, ()) := by
  obtain ⟨hn, hl⟩ := hl
  have hn : l.length ≤ 1048576 := hn
  refine Ev.fn (fun k => laws_toDirChangeS_m.f_eq k l) (Ev.yes (by omega) (Ev.yes rfl (Ev.diag (copy_loopW (W := fun l => (l, ())) (L := fun K j i y => laws_toDirChangeS_m.l8 K j l i y) (fun i h y hy r hr => ?_) (fun y => ?_) l.length 0 _ (by omega) (reps_length _ _) rfl))))
  · refine Ev.lp (fun K j => laws_toDirChangeS_m.l8_eq K j l i y) (Ev.yes (by omega) ?_)
    rw [rd_at _ _ _ h, wrap_nat (by omega)]
    exact Ev.yes (by omega) ((toDirChange_ev l[i] (hl _ (List.getElem_mem h))).bind (Ev.yes (by omega) (Ev.slet hr)))
  · exact Ev.lp (fun K j => laws_toDirChangeS_m.l8_eq K j l _ y) (Ev.no (by omega) (Ev.now _))
theorem markDirChangeS_ok (l : List T89) (k : Int) (h0 : 0 ≤ k) (h1 : k + 9 * (l.length : Int) ≤ 4000000000000000000) : ∃ l', Ev (fun K _ => laws_markDirChangeS_m.f K l k) (k + 9 * (l.length : Int), l', ()) ∧ Ev (fun K _ => laws_heldDirChangeS.f K l' k) (k + 9 * (l.length : Int)) := by
  obtain ⟨y, a1, _, a3, a4⟩ := mark_loop (L := fun K j k i y => laws_markDirChangeS_m.l6 K j k i y) (mk := fun k x => ((k, k + 1, ()), k + 1 + 1, k + 1 + 1 + 1, k + 1 + 1 + 1 + 1, (mkT (k + 1 + 1 + 1 + 1 + 1), mkT (k + 1 + 1 + 1 + 1 + 1 + 1), ()), mkT (k + 1 + 1 + 1 + 1 + 1 + 1 + 1), mkT (k + 1 + 1 + 1 + 1 + 1 + 1 + 1 + 1), ())) (c := 9) (n := l.length) (fun i k y h hy h0 h1 r hr => by
    refine Ev.lp (fun K j => laws_markDirChangeS_m.l6_eq K j k i y) (Ev.yes (by omega) ?_)
    simp only [wrap_id (x := k + 1) (by omega) (by omega), wrap_id (x := k + 1 + 1) (by omega) (by omega), wrap_id (x := k + 1 + 1 + 1) (by omega) (by omega), wrap_id (x := k + 1 + 1 + 1 + 1) (by omega) (by omega), wrap_id (x := k + 1 + 1 + 1 + 1 + 1) (by omega) (by omega), wrap_id (x := k + 1 + 1 + 1 + 1 + 1 + 1) (by omega) (by omega), wrap_id (x := k + 1 + 1 + 1 + 1 + 1 + 1 + 1) (by omega) (by omega), wrap_id (x := k + 1 + 1 + 1 + 1 + 1 + 1 + 1 + 1) (by omega) (by omega), wrap_id (x := k + 1 + 1 + 1 + 1 + 1 + 1 + 1 + 1 + 1) (by omega) (by omega), wrap_nat (show i < 9000000000000000000 by omega)]
    refine Ev.yes (by omega) ?_; refine Ev.slet ?_; try simp only [put_put, rd_put _ y i _ h, rd_at _ y i h, put_length]
    refine Ev.yes (by omega) ?_; refine Ev.slet ?_; try simp only [put_put, rd_put _ y i _ h, rd_at _ y i h, put_length]
    refine Ev.yes (by omega) ?_; refine Ev.slet ?_; try simp only [put_put, rd_put _ y i _ h, rd_at _ y i h, put_length]
    refine Ev.yes (by omega) ?_; refine Ev.slet ?_; try simp only [put_put, rd_put _ y i _ h, rd_at _ y i h, put_length]
    refine Ev.yes (by omega) ?_; refine Ev.slet ?_; try simp only [put_put, rd_put _ y i _ h, rd_at _ y i h, put_length]
    refine (mkT_ev (by omega) (by omega)).bind ?_; refine Ev.yes (by omega) ?_; refine Ev.slet ?_; try simp only [put_put, rd_put _ y i _ h, rd_at _ y i h, put_length]
    refine (mkT_ev (by omega) (by omega)).bind ?_; refine Ev.yes (by omega) ?_; refine Ev.slet ?_; try simp only [put_put, rd_put _ y i _ h, rd_at _ y i h, put_length]
    refine (mkT_ev (by omega) (by omega)).bind ?_; refine Ev.yes (by omega) ?_; refine Ev.slet ?_; try simp only [put_put, rd_put _ y i _ h, rd_at _ y i h, put_length]
    refine (mkT_ev (by omega) (by omega)).bind ?_; refine Ev.yes (by omega) ?_; refine Ev.slet ?_; try simp only [put_put, rd_put _ y i _ h, rd_at _ y i h, put_length]
    rw [show k + 1 + 1 + 1 + 1 + 1 + 1 + 1 + 1 + 1 = k + ((9 : Nat) : Int) by omega]
    exact hr) (fun k y hy => Ev.lp (fun K j => laws_markDirChangeS_m.l6_eq K j k _ y) (Ev.no (by omega) (Ev.now _))) l.length 0 k l rfl (by omega) h0 h1
  refine ⟨y, Ev.fn (fun q => laws_markDirChangeS_m.f_eq q l k) (Ev.diag a4), ?_⟩
  have := held_loop (L := fun K j k i => laws_heldDirChangeS.l6 K j y k i) (mk := fun k x => ((k, k + 1, ()), k + 1 + 1, k + 1 + 1 + 1, k + 1 + 1 + 1 + 1, (mkT (k + 1 + 1 + 1 + 1 + 1), mkT (k + 1 + 1 + 1 + 1 + 1 + 1), ()), mkT (k + 1 + 1 + 1 + 1 + 1 + 1 + 1), mkT (k + 1 + 1 + 1 + 1 + 1 + 1 + 1 + 1), ())) (c := 9) (l := y) (fun i k h x hx h0 h1 r hr => by
    refine Ev.lp (fun K j => laws_heldDirChangeS.l6_eq K j y k i) (Ev.yes (by omega) ?_)
    simp only [wrap_id (x := k + 1) (by omega) (by omega), wrap_id (x := k + 1 + 1) (by omega) (by omega), wrap_id (x := k + 1 + 1 + 1) (by omega) (by omega), wrap_id (x := k + 1 + 1 + 1 + 1) (by omega) (by omega), wrap_id (x := k + 1 + 1 + 1 + 1 + 1) (by omega) (by omega), wrap_id (x := k + 1 + 1 + 1 + 1 + 1 + 1) (by omega) (by omega), wrap_id (x := k + 1 + 1 + 1 + 1 + 1 + 1 + 1) (by omega) (by omega), wrap_id (x := k + 1 + 1 + 1 + 1 + 1 + 1 + 1 + 1) (by omega) (by omega), wrap_id (x := k + 1 + 1 + 1 + 1 + 1 + 1 + 1 + 1 + 1) (by omega) (by omega), wrap_nat (show i < 9000000000000000000 by omega), rd_at _ y i h, hx]
    repeat (first | refine Ev.yes (by omega) ?_ | refine (mkT_ev (by omega) (by omega)).bind ?_ | refine Ev.yes rfl ?_ | refine Ev.yes trivial ?_ | refine Ev.no (by simp) ?_)
    rw [show k + 1 + 1 + 1 + 1 + 1 + 1 + 1 + 1 + 1 = k + ((9 : Nat) : Int) by omega]
    exact hr) (fun k => Ev.lp (fun K j => laws_heldDirChangeS.l6_eq K j y k _) (Ev.no (by omega) (Ev.now _))) l.length 0 k (by omega) h0 h1 a3
  exact Ev.fn (fun q => laws_heldDirChangeS.f_eq q y k) (Ev.diag this)
theorem eqDirChangeS_ev (l : List T89) (hl : smSh (.list S89) l) : Ev (fun K _ => laws_eqDirChangeS.f K l l) true := by
  obtain ⟨hn, hl⟩ := hl
  have hn : l.length ≤ 1048576 := hn
  refine Ev.fn (fun k => laws_eqDirChangeS.f_eq k l l) (Ev.yes rfl (Ev.diag (true_loop (L := fun K j i => laws_eqDirChangeS.l14 K j l l i) (n := l.length) (fun i h r hr => ?_) ?_ l.length 0 (by omega))))
  · refine Ev.lp (fun K j => laws_eqDirChangeS.l14_eq K j l l i) (Ev.yes (by omega) (Ev.yes (by omega) (Ev.yes (by omega) ((eqDirChange_ev _ (by rw [rd_at _ _ _ h]; exact hl _ (List.getElem_mem h))).bind (Ev.yes rfl ?_)))))
    rw [wrap_nat (by omega)]; exact hr
  · exact Ev.lp (fun K j => laws_eqDirChangeS.l14_eq K j l l _) (Ev.no (by omega) (Ev.now _))
theorem szDirChangeS_ok (l : List T89) (m : Int) (h0 : 0 ≤ m) (h1 : m ≤ 1048576) (hf : fitSh (.list S89) l) : SzP (fun K _ => laws_szDirChangeS.f K l m) m (smSh (.list S89) l) := by
  obtain ⟨hn, hf⟩ := hf
  have hn : l.length ≤ 140737488351232 := hn
  refine SzP.fn (fun k => laws_szDirChangeS.f_eq k l m) ?_
  rw [wrap_id (x := m - (l.length : Int)) (by omega) (by omega)]
  refine SzP.cut (by omega) fun hc => ?_
  refine (SzP.loop (L := fun K j m i => laws_szDirChangeS.l16 K j l m i) (sz_row (L := fun K j m i => laws_szDirChangeS.l16 K j l m i) (l := l) (P := smSh S89) (fun i h m h0 h1 => ?_) (fun m => ?_) l.length 0 (m - l.length) (by omega) (by omega) (by omega)) fun p => ⟨show l.length ≤ 1048576 by omega, fun x hx => p x hx⟩).imp (by omega) fun p => p
  · obtain ⟨r, q, q1, q2, q3⟩ := szDirChange_ok l[i] m h0 h1 (hf _ (List.getElem_mem h))
    refine ⟨r, q1, q2, q3, fun hr => ?_, fun hr s hs => ?_⟩
    · refine Ev.lp (fun K j => laws_szDirChangeS.l16_eq K j l m i) (Ev.yes (by omega) (Ev.yes (by omega) ?_))
      rw [rd_at _ _ _ h]; exact q.bind (Ev.yes hr (Ev.now _))
    · refine Ev.lp (fun K j => laws_szDirChangeS.l16_eq K j l m i) (Ev.yes (by omega) (Ev.yes (by omega) ?_))
      rw [rd_at _ _ _ h, wrap_nat (by omega)]; exact q.bind (Ev.no (by omega) hs)
  · exact Ev.lp (fun K j => laws_szDirChangeS.l16_eq K j l m _) (Ev.no (by omega) (Ev.now _))

theorem vecOf_ok (l : List T89) : (vecOf l).length ≤ 100 ∧ (vecOf l).Pairwise fun a b => a.2.1 < b.2.1 := by
  obtain ⟨_, h2, h3⟩ := tailV_who (fun w => lastT w l 0) 100 0
  exact ⟨h3, h2⟩
theorem filter_fit {l : List T89} (f : fitSh (.list S89) l) (p : T89 → Bool) : fitSh (.list S89) (l.filter p) := ⟨Nat.le_trans (List.length_filter_le p l) f.1, fun e he => f.2 e (List.mem_filter.1 he).1⟩
theorem sync_ev (a b : List T89) (fa : fitSh (.list S89) a) (fb : fitSh (.list S89) b) (sa : smSh (.list S89) a) (sb : smSh (.list S89) b) :
    ∃ x y, Ev (fun K _ => spec_Sync.f K a b) (x, (y, ())) ∧ Ev (fun K _ => impl_Sync_m.f K a b) (x, (y, ())) ∧ smSh (.list S89) x ∧ smSh (.list S89) y ∧ x.length ≤ 200 ∧ y.length ≤ 200 := by
  have nil : smSh (.list S89) [] := ⟨Nat.zero_le _, fun x hx => by cases hx⟩
  have ea := (spec_GoodLog.v_ev a fa).1
  have eb := (spec_GoodLog.v_ev b fb).1
  have half : ∀ (a b : List T89) (fa : fitSh (.list S89) a) (fb : fitSh (.list S89) b), ∃ v m, Ev (fun K _ => impl_VectorOf.f K a) v ∧ Ev (fun K _ => impl_Missing.f K b v) m ∧ fitSh (.list S89) m ∧ (spec_GoodLog.v a = true → spec_GoodLog.v b = true → v = vecOf a ∧ m = b.filter fun c => !knows (vecOf a) c) := fun a b fa fb => by
    have e1 := vectorOf_ev fa
    by_cases ha : spec_GoodLog.v a = true
    · rw [if_pos ha] at e1
      have e2 := missing_ev b fb (vecOf a) (vecOf_ok a).1 (vecOf_ok a).2
      by_cases hb : spec_GoodLog.v b = true
      · rw [if_pos hb] at e2
        exact ⟨_, _, e1, e2, filter_fit fb _, fun _ _ => ⟨rfl, rfl⟩⟩
      · rw [if_neg hb] at e2
        exact ⟨_, _, e1, e2, fit_nil, fun _ z => absurd z hb⟩
    · rw [if_neg ha] at e1
      have e2 := missing_ev b fb [] (by simp) List.Pairwise.nil
      by_cases hb : spec_GoodLog.v b = true
      · rw [if_pos hb] at e2
        exact ⟨_, _, e1, e2, filter_fit fb _, fun z => absurd z ha⟩
      · rw [if_neg hb] at e2
        exact ⟨_, _, e1, e2, fit_nil, fun z => absurd z ha⟩
  obtain ⟨v1, m1, a1, a2, a3, a4⟩ := half a b fa fb
  obtain ⟨v2, m2, b1, b2, b3, b4⟩ := half b a fb fa
  have r1 := yreceive_ev a m1 fa a3
  have r2 := yreceive_ev b m2 fb b3
  have im : ∀ r, Ev (fun K _ => (if (if spec_GoodLog.v a = true ∧ m1.length ≤ 1000 ∧ m1.all spec_GoodChange.v = true then (decide ((recvL a m1).length ≤ 200), (recvL a m1, ())) else (false, ([], ()))).1 = true then (if (if spec_GoodLog.v b = true ∧ m2.length ≤ 1000 ∧ m2.all spec_GoodChange.v = true then (decide ((recvL b m2).length ≤ 200), (recvL b m2, ())) else (false, ([], ()))).1 = true then (some ((if spec_GoodLog.v a = true ∧ m1.length ≤ 1000 ∧ m1.all spec_GoodChange.v = true then (decide ((recvL a m1).length ≤ 200), (recvL a m1, ())) else (false, ([], ()))).2.1, (if spec_GoodLog.v b = true ∧ m2.length ≤ 1000 ∧ m2.all spec_GoodChange.v = true then (decide ((recvL b m2).length ≤ 200), (recvL b m2, ())) else (false, ([], ()))).2)) else (some (([] : List T89), (([] : List T89), ())))) else (some (([] : List T89), (([] : List T89), ()))))) r → Ev (fun K _ => impl_Sync_m.f K a b) r := fun r hr =>
    Ev.fn (fun k => impl_Sync_m.f_eq k a b) (a1.bind (a2.bind (r1.bind (b1.bind (b2.bind (r2.bind hr))))))
  by_cases ha : spec_GoodLog.v a = true
  · by_cases hb : spec_GoodLog.v b = true
    · obtain ⟨rfl, rfl⟩ := a4 ha hb
      obtain ⟨rfl, rfl⟩ := b4 hb ha
      have la := log_len ha
      have lb := log_len hb
      have f1 : ∀ (v : List T85), (b.filter fun c => !knows v c).length ≤ 200 := fun v => Nat.le_trans (List.length_filter_le _ _) lb
      have f2 : ∀ (v : List T85), (a.filter fun c => !knows v c).length ≤ 200 := fun v => Nat.le_trans (List.length_filter_le _ _) la
      have g1 : ∀ (v : List T85), (b.filter fun c => !knows v c).all spec_GoodChange.v = true := fun v => List.all_eq_true.2 fun e he => log_good hb e (List.mem_filter.1 he).1
      have g2 : ∀ (v : List T85), (a.filter fun c => !knows v c).all spec_GoodChange.v = true := fun v => List.all_eq_true.2 fun e he => log_good ha e (List.mem_filter.1 he).1
      have c1 : spec_GoodLog.v a = true ∧ (b.filter fun c => !knows (vecOf a) c).length ≤ 1000 ∧ (b.filter fun c => !knows (vecOf a) c).all spec_GoodChange.v = true := ⟨ha, by have := f1 (vecOf a); omega, g1 _⟩
      have c2 : spec_GoodLog.v b = true ∧ (a.filter fun c => !knows (vecOf b) c).length ≤ 1000 ∧ (a.filter fun c => !knows (vecOf b) c).all spec_GoodChange.v = true := ⟨hb, by have := f2 (vecOf b); omega, g2 _⟩
      rw [if_pos c1, if_pos c2] at im
      have s1 := l4Receive_ev a (b.filter fun c => !knows (vecOf a) c) (by omega) fa.2 (log_rising ha) (by have := f1 (vecOf a); omega) a3.2
      have s2 := l4Receive_ev b (a.filter fun c => !knows (vecOf b) c) (by omega) fb.2 (log_rising hb) (by have := f2 (vecOf b); omega) b3.2
      have m1 := l4Missing_ev b lb (vecOf a) (vecOf_ok a).1 (vecOf_ok a).2
      have m2 := l4Missing_ev a la (vecOf b) (vecOf_ok b).1 (vecOf_ok b).2
      have sp : ∀ r, Ev (fun K _ => (if (((recvL a (b.filter fun c => !knows (vecOf a) c)).length : Int) : Int) > 200 then (some (([] : List T89), (([] : List T89), ()))) else (if (((recvL b (a.filter fun c => !knows (vecOf b) c)).length : Int) : Int) > 200 then (some (([] : List T89), (([] : List T89), ()))) else (some (recvL a (b.filter fun c => !knows (vecOf a) c), (recvL b (a.filter fun c => !knows (vecOf b) c), ())))))) r → Ev (fun K _ => spec_Sync.f K a b) r := fun r hr =>
        Ev.fn (fun k => spec_Sync.f_eq k a b) (ea.bind (Ev.yes ha (eb.bind (Ev.yes hb ((l4Vector_ev ha).bind (m1.bind (s1.bind ((l4Vector_ev hb).bind (m2.bind (s2.bind hr))))))))))
      have sm : ∀ (p q : T89 → Bool), (∀ e ∈ recvL a (b.filter p), smSh S89 e) ∧ (∀ e ∈ recvL b (a.filter q), smSh S89 e) := fun p q => ⟨fun e he => (recvL_mem _ _ e he).elim (sa.2 e) (fun z => sb.2 e (List.mem_filter.1 z).1), fun e he => (recvL_mem _ _ e he).elim (sb.2 e) (fun z => sa.2 e (List.mem_filter.1 z).1)⟩
      by_cases q1 : (recvL a (b.filter fun c => !knows (vecOf a) c)).length ≤ 200
      · by_cases q2 : (recvL b (a.filter fun c => !knows (vecOf b) c)).length ≤ 200
        · exact ⟨_, _, sp _ (Ev.no (by omega) (Ev.no (by omega) (Ev.now _))), im _ (Ev.yes (decide_eq_true q1) (Ev.yes (decide_eq_true q2) (Ev.now _))), ⟨Nat.le_trans q1 (by omega), (sm _ fun _ => true).1⟩, ⟨Nat.le_trans q2 (by omega), (sm (fun _ => true) _).2⟩, q1, q2⟩
        · exact ⟨[], [], sp _ (Ev.no (by omega) (Ev.yes (by omega) (Ev.now _))), im _ (Ev.yes (decide_eq_true q1) (Ev.no (by simpa using q2) (Ev.now _))), nil, nil, by simp, by simp⟩
      · exact ⟨[], [], sp _ (Ev.yes (by omega) (Ev.now _)), im _ (Ev.no (by simpa using q1) (Ev.now _)), nil, nil, by simp, by simp⟩
    · refine ⟨[], [], Ev.fn (fun k => spec_Sync.f_eq k a b) (ea.bind (Ev.yes ha (eb.bind (Ev.no hb (Ev.now _))))), im _ ?_, nil, nil, by simp, by simp⟩
      rw [if_neg (show ¬ (spec_GoodLog.v b = true ∧ m2.length ≤ 1000 ∧ m2.all spec_GoodChange.v = true) from fun z => hb z.1)]
      exact Ev.ite (fun _ => Ev.no (by simp) (Ev.now _)) fun _ => Ev.now _
  · refine ⟨[], [], Ev.fn (fun k => spec_Sync.f_eq k a b) (ea.bind (Ev.no ha (Ev.now _))), im _ ?_, nil, nil, by simp, by simp⟩
    rw [if_neg (show ¬ (spec_GoodLog.v a = true ∧ m1.length ≤ 1000 ∧ m1.all spec_GoodChange.v = true) from fun z => ha z.1)]
    exact Ev.no (by simp) (Ev.now _)
theorem Pure.FnExactSync : laws_FnExactSync.Pure := by
  intro a0 a1 f0 f1
  apply Ev.rounds
  refine Ev.fn (fun k => laws_FnExactSync.f_eq k a0 a1) ?_
  obtain ⟨z, e, _, _, hz⟩ := szDirChangeS_ok a0 1048576 (by omega) (by omega) f0
  refine e.bind (Ev.ite (fun _ => Ev.now _) fun h3 => ?_)
  have s0 := hz (by omega)
  obtain ⟨z1, e1, _, _, hz1⟩ := szDirChangeS_ok a1 z (by omega) (by omega) f1
  refine e1.bind (Ev.ite (fun _ => Ev.now _) fun h4 => ?_)
  have s1 := hz1 (by omega)
  obtain ⟨x, y, w1, w2, sx, sy, lx, ly⟩ := sync_ev a0 a1 f0 f1 s0 s1
  have T0 := toDirChangeS_ev a0 s0
  have T1 := toDirChangeS_ev a1 s1
  have q1 := eqDirChangeS_ev x sx
  have q2 := eqDirChangeS_ev y sy
  have hn : a0.length ≤ 1048576 := s0.1
  have hr : a1.length ≤ 1048576 := s1.1
  refine T0.bind (T1.bind (w1.bind (T0.bind (T1.bind (w2.bind (q1.bind (Ev.yes rfl (q2.bind (Ev.yes rfl ?_)))))))))
  refine T0.bind ((eqDirChangeS_ev a0 s0).bind (Ev.yes rfl (T1.bind ((eqDirChangeS_ev a1 s1).bind (Ev.yes rfl ?_)))))
  obtain ⟨l1, m1, _⟩ := markDirChangeS_ok a0 1 (by omega) (by omega)
  obtain ⟨l2, m2, _⟩ := markDirChangeS_ok a1 (1 + 9 * (a0.length : Int)) (by omega) (by omega)
  obtain ⟨l3, m3, d3⟩ := markDirChangeS_ok x 1 (by omega) (by omega)
  obtain ⟨l4, m4, d4⟩ := markDirChangeS_ok y (1 + 9 * (x.length : Int)) (by omega) (by omega)
  refine m1.bind (m2.bind (Ev.no (by omega) (q1.bind (Ev.yes rfl (q2.bind (Ev.yes rfl ?_))))))
  refine m3.bind (m4.bind (d3.bind (Ev.no (by omega) (d4.bind (Ev.no (by omega) (Ev.yes rfl ?_))))))
  refine T0.bind (T1.bind (w2.bind (q1.bind (Ev.yes rfl (q2.bind (Ev.yes rfl ?_))))))
  exact d3.bind (Ev.no (by omega) (d4.bind (Ev.no (by omega) (Ev.yes rfl (Ev.now _)))))

end Go.Proofs.Ytacfnpnaeiagnab.PY
