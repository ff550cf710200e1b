/- The program's GoodNests answers what the reference's answers, for every list of nests.
Conditions: none but the row's own. -/
import Derived.Test.YtmnlgdmojbhfcabFitFnExactGoodNests
namespace Go.Proofs.Ytmnlgdmojbhfcab.Pure
open Go.RowKit Go.Proofs.Ytmnlgdmojbhfcab.PFnExactGoodNests Go.Proofs.YtmnlgdmojbhfcabW.PrintWords Go.Proofs.YtmnlgdmojbhfcabW.PrintLast Go.Proofs.YtmnlgdmojbhfcabOpen
set_option linter.unusedVariables false
set_option linter.unusedSimpArgs false

/-! ### from some number of rounds on -/
theorem Ev.yes {α : Type} {c : Prop} {inst : Decidable c} {A B : Nat → Option α} {r : α} (h : c) (k : Ev A r) : Ev (fun n => @ite _ c inst (A n) (B n)) r :=
  k.congr fun n => if_pos h
theorem Ev.no {α : Type} {c : Prop} {inst : Decidable c} {A B : Nat → Option α} {r : α} (h : ¬ c) (k : Ev B r) : Ev (fun n => @ite _ c inst (A n) (B n)) r :=
  k.congr fun n => if_neg h
theorem Ev.ite {α : Type} {c : Prop} {inst : Decidable c} {A B : Nat → Option α} {r : α} (h : c → Ev A r) (k : ¬ c → Ev B r) : Ev (fun n => @ite _ c inst (A n) (B n)) r := by
  by_cases e : c
  · exact Ev.yes e (h e)
  · exact Ev.no e (k e)
theorem Ev.some {α : Type} {a r : α} (h : a = r) : Ev (fun _ => some a) r := h ▸ Ev.now a
/-- A callee without rounds. -/
theorem Ev.call {α β : Type} {g : Option α} {f : Nat → α → Option β} {a : α} {r : β} (h : g = Option.some a) (k : Ev (fun n => f n a) r) : Ev (fun n => g.bind (f n)) r := by
  refine k.congr fun n => ?_
  rw [h]; rfl
theorem Ev.tail {α : Type} {g : Nat → Option α} {r : α} (h : Ev g r) : Ev (fun n => (g n).bind fun t => Option.some t) r := h.bind (Ev.now r)
theorem Ev.succ {α : Type} {g : Nat → Option α} {r : α} (h : Ev (fun k => g (k + 1)) r) : Ev g r := Ev.step (fun _ => rfl) h
theorem wrap_nat {i : Nat} (h : i < 9000000000000000000) : wrap64 ((i : Int) + 1) = ((i + 1 : Nat) : Int) := by unfold wrap64; omega
theorem wrap_id {x : Int} (h0 : -9223372036854775808 ≤ x) (h1 : x ≤ 9223372036854775807) : wrap64 x = x := by unfold wrap64; omega
theorem bt_nat (s : ByteArray) (i : Nat) (h : i < s.size) : bt s (i : Int) = (bytesOf s)[i]'(by rw [bytesOf_length]; exact h) := by
  have := rd_bytesOf s (i : Int)
  rw [← this]; unfold rd; rw [Int.toNat_natCast, List.getD_eq_getElem?_getD, List.getElem?_eq_getElem (by rw [bytesOf_length]; exact h)]; rfl
theorem drop_bytes (s : ByteArray) (i : Nat) (h : i < s.size) : (bytesOf s).drop i = bt s (i : Int) :: (bytesOf s).drop (i + 1) := by
  rw [bt_nat s i h]; exact List.drop_eq_getElem_cons (by rw [bytesOf_length]; exact h)
theorem bytes_range (s : ByteArray) : ∀ b ∈ bytesOf s, 0 ≤ b ∧ b ≤ 255 := by
  intro b hb
  unfold bytesOf at hb
  obtain ⟨x, _, rfl⟩ := List.mem_map.1 hb
  have := x.toNat_lt
  omega
/-- A loop over a string that asks each byte. -/
theorem loop_all {l : Nat → Int → Option Bool} {p : Int → Bool} {s : ByteArray}
    (yes : ∀ i : Nat, i < s.size → p (bt s i) = true → ∀ r, Ev (fun k => l k ((i + 1 : Nat) : Int)) r → Ev (fun k => l k (i : Int)) r)
    (no : ∀ i : Nat, i < s.size → p (bt s i) = false → Ev (fun k => l k (i : Int)) false)
    (done : Ev (fun k => l k (s.size : Int)) true) :
    ∀ (d i : Nat), s.size = i + d → Ev (fun k => l k (i : Int)) (((bytesOf s).drop i).all p) := by
  intro d
  induction d with
  | zero =>
    intro i h
    obtain rfl : i = s.size := by omega
    rw [List.drop_eq_nil_of_le (by rw [bytesOf_length]; exact Nat.le_refl _)]
    exact done
  | succ d ih =>
    intro i h
    rw [drop_bytes s i (by omega), List.all_cons]
    cases hp : p (bt s i) with
    | true => rw [Bool.true_and]; exact yes i (by omega) hp _ (ih (i + 1) (by omega))
    | false => rw [Bool.false_and]; exact no i (by omega) hp
/-! ### good names -/
def pDigit (a : Int) : Bool := decide (48 ≤ a ∧ a ≤ 57)
def pLetter (a : Int) : Bool := decide (97 ≤ a ∧ a ≤ 122 ∨ 65 ≤ a ∧ a ≤ 90)
def pWord (a : Int) : Bool := pLetter a || pDigit a || decide (a = 95)
def goodName (s : ByteArray) : Bool := decide (1 ≤ s.size ∧ s.size ≤ 30) && !pDigit (bt s 0) && (bytesOf s).all pWord
theorem spec_l1Digit_eq (a : Int) : spec_l1Digit.f a = some (pDigit a) := by
  unfold spec_l1Digit.f pDigit; split <;> congr 1 <;> simp <;> omega
theorem spec_l1Letter_eq (a : Int) : spec_l1Letter.f a = some (pLetter a) := by
  unfold spec_l1Letter.f pLetter; repeat' split
  all_goals (congr 1; rw [eq_comm]; first | (apply decide_eq_true; omega) | (apply decide_eq_false; omega) | (apply decide_eq_decide.2; omega))
theorem impl_ydigit_eq (a : Int) : impl_ydigit.f a = some (pDigit a) := by
  unfold impl_ydigit.f pDigit; split <;> congr 1 <;> simp <;> omega
theorem impl_yletter_eq (a : Int) : impl_yletter.f a = some (pLetter a) := by
  unfold impl_yletter.f pLetter; repeat' split
  all_goals (congr 1; rw [eq_comm]; first | (apply decide_eq_true; omega) | (apply decide_eq_false; omega) | (apply decide_eq_decide.2; omega))
theorem impl_ywordByte_eq (a : Int) : impl_ywordByte.f a = some (pWord a) := by
  unfold impl_ywordByte.f pWord
  rw [impl_yletter_eq, Option.bind_some, impl_ydigit_eq, Option.bind_some]
  cases pLetter a <;> cases pDigit a <;> simp [BEq.beq]
theorem size_bytes_nil (s : ByteArray) : s.toList = ([] : List UInt8) ↔ s.size = 0 := by
  have h : s.toList = s.data.toList := ByteArray.toList_eq s
  rw [h]
  constructor
  · intro h; have := congrArg List.length h; simpa using this
  · intro h; apply List.eq_nil_of_length_eq_zero; simpa using h
theorem spec_GoodName_l0 (s : ByteArray) (hs : s.size ≤ 1048576) (i : Nat) (hi : i ≤ s.size) : Ev (fun k => spec_GoodName.l0 k s (i : Int)) (((bytesOf s).drop i).all pWord) := by
  refine loop_all (l := fun k i => spec_GoodName.l0 k s i) ?_ ?_ ?_ (s.size - i) i (by omega)
  · intro i h hp r hr
    refine Ev.step (fun _ => rfl) (Ev.yes (by omega) (Ev.yes (by omega) (Ev.call (spec_l1Letter_eq _) ?_)))
    rw [← wrap_nat (by omega)] at hr
    refine Ev.ite (fun _ => hr) fun h1 => Ev.call (spec_l1Digit_eq _) (Ev.ite (fun _ => hr) fun h2 => Ev.ite (fun _ => hr) fun h3 => ?_)
    exfalso
    unfold pWord at hp
    simp [h1, h2, h3] at hp
  · intro i h hp
    refine Ev.step (fun _ => rfl) (Ev.yes (by omega) (Ev.yes (by omega) (Ev.call (spec_l1Letter_eq _) ?_)))
    unfold pWord at hp
    simp only [Bool.or_eq_false_iff, decide_eq_false_iff_not] at hp
    refine Ev.no (by simp [hp.1.1]) (Ev.call (spec_l1Digit_eq _) (Ev.no (by simp [hp.1.2]) (Ev.no hp.2 (Ev.now _))))
  · exact Ev.step (fun _ => rfl) (Ev.no (by omega) (Ev.now _))
theorem spec_GoodName_ev (s : ByteArray) (hs : s.size ≤ 1048576) : Ev (fun k => spec_GoodName.f k s) (goodName s) := by
  unfold spec_GoodName.f goodName
  have H : Ev (fun k => spec_GoodName.l0 k s 0) ((bytesOf s).all pWord) := spec_GoodName_l0 s hs 0 (by omega)
  have hf : ∀ b : Bool, Ev (fun k => spec_GoodName.j0 k s b) (!b && (bytesOf s).all pWord) := by
    intro b
    cases b with
    | true => apply Ev.succ; simp only [spec_GoodName.j0, if_true, Bool.not_true, Bool.false_and]; exact Ev.now _
    | false => apply Ev.succ; simp only [spec_GoodName.j0, Bool.false_eq_true, if_false, Bool.not_false, Bool.true_and]; exact H
  refine Ev.ite (fun h => ?_) fun h => Ev.ite (fun h' => ?_) fun h' => Ev.yes (by omega) (Ev.call (spec_l1Digit_eq _) ?_)
  · rw [decide_eq_false (by omega)]; exact hf true
  · rw [decide_eq_false (by omega)]; exact hf true
  · rw [decide_eq_true (by omega), Bool.true_and]; exact hf _
theorem impl_GoodName_l0 (s : ByteArray) (hs : s.size ≤ 1048576) (i : Nat) (hi : i ≤ s.size) : Ev (fun k => impl_GoodName.l0 k s (s.size : Int) (i : Int)) (((bytesOf s).drop i).all pWord) := by
  refine loop_all (l := fun k i => impl_GoodName.l0 k s (s.size : Int) i) ?_ ?_ ?_ (s.size - i) i (by omega)
  · intro i h hp r hr
    rw [← wrap_nat (by omega)] at hr
    exact Ev.step (fun _ => rfl) (Ev.yes (by omega) (Ev.yes (by omega) (Ev.yes (by omega) (Ev.call (impl_ywordByte_eq _) (Ev.yes hp hr)))))
  · intro i h hp
    exact Ev.step (fun _ => rfl) (Ev.yes (by omega) (Ev.yes (by omega) (Ev.yes (by omega) (Ev.call (impl_ywordByte_eq _) (Ev.no (by simp [hp]) (Ev.now _))))))
  · exact Ev.step (fun _ => rfl) (Ev.no (by omega) (Ev.now _))
theorem impl_GoodName_ev (s : ByteArray) (hs : s.size ≤ 1048576) : Ev (fun k => impl_GoodName.f k s) (goodName s) := by
  unfold impl_GoodName.f goodName
  have H : Ev (fun k => impl_GoodName.l0 k s (s.size : Int) 0) ((bytesOf s).all pWord) := impl_GoodName_l0 s hs 0 (by omega)
  have hf : ∀ b : Bool, Ev (fun k => impl_GoodName.j0 k s b) (!b && (bytesOf s).all pWord) := by
    intro b
    cases b with
    | true => apply Ev.succ; simp only [impl_GoodName.j0, if_true, Bool.not_true, Bool.false_and]; exact Ev.now _
    | false => apply Ev.succ; simp only [impl_GoodName.j0, Bool.false_eq_true, if_false, Bool.not_false, Bool.true_and]; exact H
  refine Ev.ite (fun h => ?_) fun h => Ev.ite (fun h' => ?_) fun h' => ?_
  · rw [size_bytes_nil] at h; rw [decide_eq_false (by omega)]; exact hf true
  · rw [decide_eq_false (by omega)]; exact hf true
  · rw [size_bytes_nil] at h; rw [decide_eq_true (by omega), Bool.true_and]; exact Ev.yes (by omega) (Ev.call (impl_ydigit_eq _) (hf _))
/-! ### lists of numbers, and what the law's own functions do with bytes -/
theorem rd_nat (l : List Int) (i : Nat) (h : i < l.length) : rd l (i : Int) = l[i] := by
  unfold rd; rw [Int.toNat_natCast, List.getD_eq_getElem?_getD, List.getElem?_eq_getElem h]; rfl
theorem set_step {β : Type} (xs : List β) (z : β) (i : Nat) (h : i < xs.length) :
    (xs.take i ++ List.replicate (xs.length - i) z).set i xs[i] = xs.take (i + 1) ++ List.replicate (xs.length - (i + 1)) z := by
  obtain ⟨d, hd⟩ : ∃ d, xs.length - i = d + 1 := ⟨xs.length - i - 1, by omega⟩
  rw [hd, show xs.length - (i + 1) = d by omega, List.replicate_succ, List.set_append_right _ _ (by simp; omega)]
  rw [show i - (xs.take i).length = 0 by simp; omega, List.set_cons_zero, List.take_succ_eq_append_getElem h, List.append_assoc]; rfl
theorem fill_len {β : Type} (xs : List β) (z : β) (i : Nat) (h : i ≤ xs.length) : (xs.take i ++ List.replicate (xs.length - i) z).length = xs.length := by simp; omega
/-! ### the order of texts -/
def cmpL : List Int → List Int → Int
  | [], [] => 0
  | [], _ :: _ => -1
  | _ :: _, [] => 1
  | a :: l, b :: m => if a = b then cmpL l m else if a < b then -1 else 1
def cmpT (s t : ByteArray) : Int := cmpL (bytesOf s) (bytesOf t)
theorem cmpL_refl : ∀ l : List Int, cmpL l l = 0
  | [] => rfl
  | a :: l => by unfold cmpL; rw [if_pos rfl]; exact cmpL_refl l
theorem cmpL_zero : ∀ {l m : List Int}, cmpL l m = 0 → l = m
  | [], [], _ => rfl
  | [], _ :: _, h => by simp [cmpL] at h
  | _ :: _, [], h => by simp [cmpL] at h
  | a :: l, b :: m, h => by
    unfold cmpL at h
    by_cases e : a = b
    · rw [if_pos e] at h
      rw [e, cmpL_zero h]
    · rw [if_neg e] at h
      split at h <;> omega
theorem cmpL_anti : ∀ (l m : List Int), cmpL m l = - cmpL l m
  | [], [] => rfl
  | [], _ :: _ => rfl
  | _ :: _, [] => rfl
  | a :: l, b :: m => by
    unfold cmpL
    by_cases e : a = b
    · rw [if_pos e, if_pos e.symm]; exact cmpL_anti l m
    · rw [if_neg e, if_neg (Ne.symm e)]
      by_cases h : a < b
      · rw [if_pos h, if_neg (by omega)]; rfl
      · rw [if_neg h, if_pos (by omega)]
theorem cmpL_range (l m : List Int) : cmpL l m = -1 ∨ cmpL l m = 0 ∨ cmpL l m = 1 := by
  induction l generalizing m with
  | nil => cases m <;> simp [cmpL]
  | cons a l ih =>
    cases m with
    | nil => simp [cmpL]
    | cons b m =>
      unfold cmpL
      by_cases e : a = b
      · rw [if_pos e]; exact ih m
      · rw [if_neg e]; split <;> simp
theorem bytesOf_inj {s t : ByteArray} (h : bytesOf s = bytesOf t) : s = t := by
  have e : s.data.toList = t.data.toList := by
    unfold bytesOf at h
    have inj : ∀ (l m : List UInt8), l.map (fun b => (b.toNat : Int)) = m.map (fun b => (b.toNat : Int)) → l = m := by
      intro l
      induction l with
      | nil => intro m h; cases m with
        | nil => rfl
        | cons b m => simp at h
      | cons a l ih => intro m h; cases m with
        | nil => simp at h
        | cons b m =>
          simp only [List.map_cons, List.cons.injEq] at h
          obtain ⟨h1, h2⟩ := h
          have h3 : a.toNat = b.toNat := by omega
          rw [ih m h2, UInt8.toNat_inj.1 h3]
    exact inj _ _ h
  cases s; cases t
  simp only [ByteArray.mk.injEq]
  exact Array.ext' e
theorem cmpT_zero {s t : ByteArray} : cmpT s t = 0 ↔ s = t :=
  ⟨fun h => bytesOf_inj (cmpL_zero h), fun h => by rw [h]; exact cmpL_refl _⟩
theorem cmpT_range (s t : ByteArray) : cmpT s t = -1 ∨ cmpT s t = 0 ∨ cmpT s t = 1 := cmpL_range _ _
theorem bytesLess_iff (s t : ByteArray) : Op.bytesLess s.toList t.toList = true ↔ cmpT s t = -1 := by
  rw [ByteArray.toList_eq, ByteArray.toList_eq]
  unfold cmpT bytesOf
  generalize s.data.toList = l
  generalize t.data.toList = m
  induction l generalizing m with
  | nil => cases m <;> simp [Op.bytesLess, cmpL]
  | cons a l ih =>
    cases m with
    | nil => simp [Op.bytesLess, cmpL]
    | cons b m =>
      simp only [List.map_cons]
      unfold cmpL Op.bytesLess
      by_cases e : a = b
      · subst e
        rw [if_pos rfl, ← ih m]
        simp
      · have hne : (a.toNat : Int) ≠ b.toNat := fun h => e (UInt8.toNat_inj.1 (by omega))
        rw [if_neg hne]
        by_cases h : a < b
        · have : (a.toNat : Int) < b.toNat := by have := UInt8.lt_iff_toNat_lt.1 h; omega
          rw [if_pos this]; simp [h]
        · have h' : ¬ (a.toNat : Int) < b.toNat := fun q => h (UInt8.lt_iff_toNat_lt.2 (by omega))
          rw [if_neg h']; simp [h, e]
theorem spec_l1CmpNum_eq (a b : Int) : spec_l1CmpNum.f a b = some (if a < b then -1 else if a > b then 1 else 0) := by
  unfold spec_l1CmpNum.f; split
  · rfl
  · split <;> rfl
theorem spec_l1CmpText_l0 (s t : ByteArray) (hs : s.size ≤ 1048576) (ht : t.size ≤ 1048576) : ∀ (d i : Nat), s.size = i + d → i ≤ t.size → Ev (fun k => spec_l1CmpText.l0 k s t (i : Int)) (cmpL ((bytesOf s).drop i) ((bytesOf t).drop i)) := by
  have bad : ∀ (i : Nat), i ≤ s.size → i ≤ t.size → (i = s.size ∨ i = t.size) → Ev (fun k => spec_l1CmpText.j1 k s t (i : Int) false) (cmpL ((bytesOf s).drop i) ((bytesOf t).drop i)) := by
    intro i h1 h2 h3
    refine Ev.succ ?_
    simp only [spec_l1CmpText.j1]
    refine Ev.no (by simp) (Ev.call (spec_l1CmpNum_eq _ _) (Ev.some ?_))
    rcases h3 with rfl | rfl
    · rw [List.drop_eq_nil_of_le (by rw [bytesOf_length]; exact Nat.le_refl _)]
      by_cases h : s.size < t.size
      · rw [if_pos (by omega), drop_bytes t _ h]; rfl
      · rw [if_neg (by omega), if_neg (by omega), List.drop_eq_nil_of_le (by rw [bytesOf_length]; omega)]; rfl
    · have dz : (bytesOf t).drop t.size = [] := List.drop_eq_nil_of_le (by rw [bytesOf_length]; exact Nat.le_refl _)
      rw [dz]
      by_cases h : t.size < s.size
      · rw [if_neg (by omega), if_pos (by omega), drop_bytes s _ h]; rfl
      · rw [if_neg (by omega), if_neg (by omega), List.drop_eq_nil_of_le (by rw [bytesOf_length]; omega)]; rfl
  intro d
  induction d with
  | zero =>
    intro i h h2
    refine Ev.succ ?_
    simp only [spec_l1CmpText.l0]
    exact Ev.no (by omega) (bad i (by omega) h2 (Or.inl (by omega)))
  | succ d ih =>
    intro i h h2
    refine Ev.succ ?_
    simp only [spec_l1CmpText.l0]
    refine Ev.yes (by omega) ?_
    by_cases h3 : i < t.size
    · rw [decide_eq_true (by omega)]
      refine Ev.succ ?_
      simp only [spec_l1CmpText.j1]
      refine Ev.yes (by trivial) (Ev.yes (by omega) (Ev.yes (by omega) (Ev.yes (by omega) ?_)))
      rw [drop_bytes s i (by omega), drop_bytes t i h3]
      unfold cmpL
      have b1 := bt_range s i
      have b2 := bt_range t i
      refine Ev.ite (fun e => ?_) fun e => Ev.call (spec_l1CmpNum_eq _ _) (Ev.some ?_)
      · rw [if_pos e, wrap_nat (by omega)]
        exact ih (i + 1) (by omega) (by omega)
      · rw [if_neg e, wrap_id (by omega) (by omega), wrap_id (by omega) (by omega)]
        by_cases hlt : bt s i < bt t i
        · rw [if_pos hlt, if_pos hlt]
        · rw [if_neg hlt, if_neg hlt, if_pos (by omega)]
    · rw [decide_eq_false (by omega)]
      exact bad i (by omega) h2 (Or.inr (by omega))
theorem spec_l1CmpText_ev (s t : ByteArray) (hs : s.size ≤ 1048576) (ht : t.size ≤ 1048576) : Ev (fun k => spec_l1CmpText.f k s t) (cmpT s t) := by
  unfold spec_l1CmpText.f
  exact spec_l1CmpText_l0 s t hs ht s.size 0 (by omega) (by omega)
theorem cmp_Compare_string_eq (s t : ByteArray) : cmp_Compare_string.f s t = some (cmpT s t) := by
  unfold cmp_Compare_string.f
  congr 1
  have h1 := bytesLess_iff s t
  have h2 := bytesLess_iff t s
  have h3 : cmpT t s = - cmpT s t := cmpL_anti _ _
  rw [h3] at h2
  rcases cmpT_range s t with h | h | h
  · rw [if_pos (h1.2 h), h]
  · rw [if_neg (fun z => by have := h1.1 z; omega), if_neg (fun z => by have := h2.1 z; omega), h]
  · rw [if_neg (fun z => by have := h1.1 z; omega), if_pos (h2.2 (by omega)), h]
/-- The first that is not 0. -/
def orL : List Int → Int
  | [] => 0
  | a :: l => if a = 0 then orL l else a
theorem cmp_Or_int_l0 (l : List Int) (hl : l.length ≤ 1048576) : ∀ (d i : Nat), l.length = i + d → Ev (fun k => cmp_Or_int.l0 k 0 l (l.length : Int) (i : Int)) (orL (l.drop i)) := by
  intro d
  induction d with
  | zero =>
    intro i h
    refine Ev.succ ?_
    simp only [cmp_Or_int.l0]
    rw [List.drop_eq_nil_of_le (by omega)]
    exact Ev.no (by omega) (Ev.now _)
  | succ d ih =>
    intro i h
    refine Ev.succ ?_
    simp only [cmp_Or_int.l0]
    refine Ev.yes (by omega) (Ev.yes (by omega) (Ev.yes (by omega) ?_))
    rw [rd_nat l i (by omega), List.drop_eq_getElem_cons (show i < l.length by omega)]
    unfold orL
    refine Ev.ite (fun e => ?_) fun e => Ev.some ?_
    · rw [if_pos e, wrap_nat (by omega)]; exact ih (i + 1) (by omega)
    · rw [if_neg e]
theorem cmp_Or_int_ev (l : List Int) (hl : l.length ≤ 1048576) : Ev (fun k => cmp_Or_int.f k l) (orL l) := by
  unfold cmp_Or_int.f
  exact cmp_Or_int_l0 l hl l.length 0 (by omega)
/-! ### what is left of the law's measure -/
def szA (m a : Int) : Int := if m - a < 0 then -1 else m - a
theorem szA_neg {m a : Int} : ¬ szA m a < 0 ↔ a ≤ m := by unfold szA; split <;> omega
theorem szA_ok {m a : Int} (h : ¬ szA m a < 0) : szA m a = m - a ∧ a ≤ m := by
  unfold szA at *
  by_cases e : m - a < 0
  · rw [if_pos e] at h; omega
  · rw [if_neg e]; omega
/-! ### the loops of the law's own functions, whatever the elements -/
theorem self_loop {L : Nat → Int → Option Bool} {n : Nat} (step : ∀ i : Nat, i < n → Ev (fun k => L k ((i + 1 : Nat) : Int)) true → Ev (fun k => L k (i : Int)) true) (done : Ev (fun k => L k (n : Int)) true) :
    ∀ (d i : Nat), n = i + d → Ev (fun k => L k (i : Int)) true := by
  intro d
  induction d with
  | zero => intro i h; obtain rfl : n = i := by omega
            exact done
  | succ d ih => intro i h; exact step i (by omega) (ih (i + 1) (by omega))
theorem to_loop {α β : Type} {L : Nat → List β → Int → Option (List β)} {l : List α} {g : α → β} {z : β}
    (step : ∀ (i : Nat) (h : i < l.length) (o : List β), o.length = l.length → ∀ r, Ev (fun k => L k (o.set i (g l[i])) ((i + 1 : Nat) : Int)) r → Ev (fun k => L k o (i : Int)) r)
    (done : ∀ o : List β, Ev (fun k => L k o (l.length : Int)) o) :
    ∀ (d i : Nat), l.length = i + d → Ev (fun k => L k ((l.map g).take i ++ List.replicate (l.length - i) z) (i : Int)) (l.map g) := by
  intro d
  induction d with
  | zero =>
    intro i h
    obtain rfl : i = l.length := by omega
    rw [Nat.sub_self, List.replicate_zero, List.append_nil, List.take_of_length_le (by simp)]
    exact done _
  | succ d ih =>
    intro i h
    refine step i (by omega) _ (by simp; omega) _ ?_
    have e := set_step (l.map g) z i (by simp; omega)
    simp only [List.length_map, List.getElem_map] at e
    rw [e]
    exact ih (i + 1) (by omega)
/-- What a measure tells: what is left, and that all it measured fits. -/
def SzTo (g : Nat → Option Int) (m : Int) (Q : Prop) : Prop := ∃ r, Ev g r ∧ r ≤ m ∧ (¬ r < 0 → Q)
theorem sz_loop {α : Type} {L : Nat → Int → Int → Option Int} {l : List α} {Q : α → Prop}
    (step : ∀ (i : Nat) (h : i < l.length) (m : Int), 0 ≤ m → m ≤ 1048576 → ∃ r, r ≤ m ∧ (¬ r < 0 → Q l[i]) ∧ (r < 0 → Ev (fun k => L k m (i : Int)) (-1)) ∧ (¬ r < 0 → ∀ s, Ev (fun k => L k r ((i + 1 : Nat) : Int)) s → Ev (fun k => L k m (i : Int)) s))
    (done : ∀ m : Int, Ev (fun k => L k m (l.length : Int)) m) :
    ∀ (d i : Nat) (m : Int), l.length = i + d → 0 ≤ m → m ≤ 1048576 → SzTo (fun k => L k m (i : Int)) m (∀ x ∈ l.drop i, Q x) := by
  intro d
  induction d with
  | zero =>
    intro i m h h0 h1
    obtain rfl : i = l.length := by omega
    exact ⟨m, done m, Int.le_refl _, fun _ x hx => by rw [List.drop_length] at hx; simp at hx⟩
  | succ d ih =>
    intro i m h h0 h1
    obtain ⟨r, hr, hq, hneg, hpos⟩ := step i (by omega) m h0 h1
    by_cases hz : r < 0
    · exact ⟨-1, hneg hz, by omega, fun h => absurd (by omega) h⟩
    · obtain ⟨s, hs, hle, hall⟩ := ih (i + 1) r (by omega) (by omega) (by omega)
      refine ⟨s, hpos hz s hs, by omega, fun hn x hx => ?_⟩
      rw [List.drop_eq_getElem_cons (show i < l.length by omega)] at hx
      rcases List.mem_cons.1 hx with rfl | hx
      · exact hq hz
      · exact hall hn x hx
def cvNest (x : S82) : S83 := ⟨x.f0, x.f1⟩
theorem eqNest_self (y0 : ByteArray) (y1 : ByteArray) : laws_eqNest.f y0 y1 y0 y1 = some true := by
  simp [laws_eqNest.f]
theorem eqNestS_self (a : List S83) (ha : a.length ≤ 1048576) : Ev (fun k => laws_eqNestS.f k a a) true := by
  unfold laws_eqNestS.f
  refine Ev.yes rfl (self_loop (L := fun k i => laws_eqNestS.l0 k a a i) (n := a.length) (fun i hi hr => ?_) ?_ a.length 0 (by omega))
  · refine Ev.succ ?_
    simp only [laws_eqNestS.l0]
    rw [← wrap_nat (by omega)] at hr
    exact Ev.yes (by omega) (Ev.yes (by omega) (Ev.yes (by omega) (Ev.call (eqNest_self _ _) (Ev.yes rfl hr))))
  · refine Ev.succ ?_
    simp only [laws_eqNestS.l0]
    exact Ev.no (by omega) (Ev.now _)
theorem toNestS_ev (l : List S82) (hl : l.length ≤ 1048576) : Ev (fun k => laws_toNestS.f k l) (l.map cvNest) := by
  unfold laws_toNestS.f
  refine Ev.yes (by omega) (Ev.yes (by omega) ?_)
  refine to_loop (L := fun k o i => laws_toNestS.l0 k l o i) (g := cvNest) (z := z83) ?_ ?_ l.length 0 (by omega)
  · intro i h o ho r hr
    refine Ev.succ ?_
    simp only [laws_toNestS.l0]
    refine Ev.yes (by omega) (Ev.yes (by omega) ?_)
    simp only [laws_toNest.f, Option.bind_some]
    refine Ev.yes (by omega) ?_
    rw [wrap_nat (by omega), Int.toNat_natCast]
    have e : rd_T82 l (i : Int) = l[i] := by unfold rd_T82; rw [Int.toNat_natCast, List.getD_eq_getElem?_getD, List.getElem?_eq_getElem h]; rfl
    rw [e]
    exact hr
  · intro o
    refine Ev.succ ?_
    simp only [laws_toNestS.l0]
    exact Ev.no (by omega) (Ev.now _)
def fitsNest (x : S82) : Prop := (x.f0).size ≤ 1048576 ∧ (x.f1).size ≤ 1048576
theorem szNest_to (x : S82) (m : Int) (h0 : 0 ≤ m) (h1 : m ≤ 1048576) (hx : (x.f0).size ≤ 140737488351232 ∧ (x.f1).size ≤ 140737488351232) : ∃ r, laws_szNest.f x.f0 x.f1 m = some r ∧ r ≤ m ∧ (¬ r < 0 → fitsNest x) := by
  unfold fitsNest laws_szNest.f
  simp only [wrap64]
  repeat' split
  all_goals first | exact ⟨_, rfl, by omega, by omega⟩ | (refine ⟨_, rfl, ?_, ?_⟩ <;> simp <;> omega)
theorem szNestS_to (l : List S82) (m : Int) (h0 : 0 ≤ m) (h1 : m ≤ 1048576) (hl : l.length ≤ 140737488351232) (hx : ∀ x ∈ l, (x.f0).size ≤ 140737488351232 ∧ (x.f1).size ≤ 140737488351232) : SzTo (fun k => laws_szNestS.f k l m) m (l.length ≤ 1048576 ∧ ∀ x ∈ l, fitsNest x) := by
  unfold laws_szNestS.f
  rw [wrap_id (x := m - (l.length : Int)) (by omega) (by omega)]
  by_cases hn : m - (l.length : Int) < 0
  · exact ⟨-1, Ev.yes hn (Ev.now _), by omega, fun h => absurd (by omega) h⟩
  · have H := sz_loop (L := fun k m i => laws_szNestS.l0 k l m i) (Q := fitsNest) (l := l) (fun i h m h0 h1 => by
      have e : rd_T82 l (i : Int) = l[i] := by unfold rd_T82; rw [Int.toNat_natCast, List.getD_eq_getElem?_getD, List.getElem?_eq_getElem h]; rfl
      obtain ⟨r, h2, h3, h4⟩ := szNest_to l[i] m h0 h1 (hx _ (List.getElem_mem h))
      refine ⟨r, h3, h4, fun hz => ?_, fun hz s hs => ?_⟩
      · refine Ev.succ ?_
        simp only [laws_szNestS.l0]
        rw [e]
        exact Ev.yes (by omega) (Ev.yes (by omega) (Ev.call h2 (Ev.yes hz (Ev.now _))))
      · refine Ev.succ ?_
        simp only [laws_szNestS.l0]
        rw [e]
        rw [← wrap_nat (by omega)] at hs
        exact Ev.yes (by omega) (Ev.yes (by omega) (Ev.call h2 (Ev.no hz hs)))) (fun m => by
      refine Ev.succ ?_
      simp only [laws_szNestS.l0]
      exact Ev.no (by omega) (Ev.now _)) l.length 0 (m - (l.length : Int)) (by omega) (by omega) (by omega)
    obtain ⟨r, hr, hle, hq⟩ := H
    exact ⟨r, Ev.no hn hr, by omega, fun h => ⟨by omega, fun x hx => hq h x (by simpa using hx)⟩⟩
def groupB (s : ByteArray) : Bool := goodName s && decide (65 ≤ bt s 0 ∧ bt s 0 ≤ 90)
theorem good_size {s : ByteArray} (h : goodName s = true) : 1 ≤ s.size ∧ s.size ≤ 30 := by
  unfold goodName at h
  simp only [Bool.and_eq_true, decide_eq_true_eq] at h
  exact h.1.1
theorem spec_l5Group_ev (s : ByteArray) (hs : s.size ≤ 1048576) : Ev (fun k => spec_l5Group.f k s) (groupB s) := by
  unfold spec_l5Group.f groupB
  refine (spec_GoodName_ev s hs).bind (Ev.ite (fun h => ?_) fun h => Ev.some (by simp [h]))
  rw [h, Bool.true_and]
  have := good_size h
  refine Ev.yes (by omega) (Ev.ite (fun h1 => Ev.some ?_) fun h1 => Ev.some ?_)
  · rw [decide_eq_decide]; omega
  · rw [eq_comm, decide_eq_false_iff_not]; omega
theorem impl_ygroupName_ev (s : ByteArray) (hs : s.size ≤ 1048576) : Ev (fun k => impl_ygroupName.f k s) (groupB s) := by
  unfold impl_ygroupName.f groupB
  refine (impl_GoodName_ev s hs).bind (Ev.ite (fun h => ?_) fun h => Ev.some (by simp [h]))
  rw [h, Bool.true_and]
  have := good_size h
  refine Ev.yes (by omega) (Ev.ite (fun h1 => Ev.some ?_) fun h1 => Ev.some ?_)
  · rw [decide_eq_decide]; omega
  · rw [eq_comm, decide_eq_false_iff_not]; omega
def cmpN (x y : S83) : Int := orL [cmpT x.f0 y.f0, cmpT x.f1 y.f1]
theorem spec_l5CmpNest_ev (x y : S83) (h : (x.f0).size ≤ 1048576 ∧ (x.f1).size ≤ 1048576) (h' : (y.f0).size ≤ 1048576 ∧ (y.f1).size ≤ 1048576) : Ev (fun k => spec_l5CmpNest.f k x.f0 x.f1 y.f0 y.f1) (cmpN x y) := by
  unfold spec_l5CmpNest.f cmpN orL
  refine (spec_l1CmpText_ev _ _ h.1 h'.1).bind (Ev.ite (fun e => ?_) fun e => Ev.some ?_)
  · rw [if_pos e]
    refine (spec_l1CmpText_ev _ _ h.2 h'.2).bind (Ev.some ?_)
    unfold orL orL
    split
    · rename_i e; exact e
    · rfl
  · rw [if_neg e]
theorem impl_ycmpNest_ev (x y : S83) : Ev (fun k => impl_ycmpNest.f k x.f0 x.f1 y.f0 y.f1) (cmpN x y) := by
  unfold impl_ycmpNest.f
  refine Ev.call (cmp_Compare_string_eq _ _) (Ev.call (cmp_Compare_string_eq _ _) (Ev.tail ?_))
  exact cmp_Or_int_ev _ (by simp)
def nestB (x : S83) : Bool := groupB x.f0 && goodName x.f1
/-- From element i on all is well. -/
def nestsFrom (l : List S83) : Nat → Nat → Bool
  | 0, _ => true
  | d + 1, i => nestB (l.getD i z83) && (decide (i = 0) || decide (cmpN (l.getD (i - 1) z83) (l.getD i z83) < 0)) && nestsFrom l d (i + 1)
def goodNests (l : List S83) : Bool := decide (l.length ≤ 200) && nestsFrom l l.length 0
theorem rdT (l : List S83) (i : Nat) : rd_T83 l (i : Int) = l.getD i z83 := rfl
def fitsL (l : List S83) : Prop := ∀ i, ((l.getD i z83).f0).size ≤ 1048576 ∧ ((l.getD i z83).f1).size ≤ 1048576
theorem spec_GoodNests_l0 (l : List S83) (hl : l.length ≤ 1048576) (hf : fitsL l) : ∀ (d i : Nat), l.length = i + d → Ev (fun k => spec_GoodNests.l0 k l l (l.length : Int) (i : Int)) (nestsFrom l d i) := by
  intro d
  induction d with
  | zero =>
    intro i h
    refine Ev.succ ?_
    simp only [spec_GoodNests.l0]
    exact Ev.no (by omega) (Ev.now _)
  | succ d ih =>
    intro i h
    refine Ev.succ ?_
    simp only [spec_GoodNests.l0]
    refine Ev.yes (by omega) (Ev.yes (by omega) (Ev.yes (by omega) ?_))
    rw [rdT, wrap_nat (by omega)]
    unfold nestsFrom nestB
    refine (spec_l5Group_ev _ (hf i).1).bind (Ev.ite (fun g => ?_) fun g => Ev.some (by rw [Bool.eq_false_iff.2 g]; rfl))
    refine (spec_GoodName_ev _ (hf i).2).bind (Ev.ite (fun g' => ?_) fun g' => Ev.some (by rw [g, Bool.eq_false_iff.2 g']; rfl))
    rw [g, g', Bool.true_and, Bool.true_and]
    refine Ev.ite (fun hi => ?_) fun hi => ?_
    · obtain ⟨j, rfl⟩ : ∃ j, i = j + 1 := ⟨i - 1, by omega⟩
      rw [show wrap64 (((j + 1 : Nat) : Int) - 1) = (j : Int) from by rw [wrap_id (by omega) (by omega)]; omega, rdT]
      refine Ev.yes (by omega) (Ev.yes (by omega) ((spec_l5CmpNest_ev _ _ (hf j) (hf (j + 1))).bind (Ev.ite (fun hc => Ev.some ?_) fun hc => ?_)))
      · simp only [Nat.add_sub_cancel]
        rw [decide_eq_false (by omega), decide_eq_false (by omega)]; rfl
      · simp only [Nat.add_sub_cancel]
        rw [decide_eq_true (p := cmpN _ _ < 0) (by omega), Bool.or_true, Bool.true_and]
        exact ih (j + 1 + 1) (by omega)
    · rw [decide_eq_true (by omega), Bool.true_or, Bool.true_and]
      exact ih (i + 1) (by omega)
theorem impl_GoodNests_l0 (l : List S83) (hl : l.length ≤ 1048576) (hf : fitsL l) : ∀ (d i : Nat), l.length = i + d → Ev (fun k => impl_GoodNests.l0 k l l (l.length : Int) (i : Int)) (nestsFrom l d i) := by
  intro d
  induction d with
  | zero =>
    intro i h
    refine Ev.succ ?_
    simp only [impl_GoodNests.l0]
    exact Ev.no (by omega) (Ev.now _)
  | succ d ih =>
    intro i h
    refine Ev.succ ?_
    simp only [impl_GoodNests.l0]
    refine Ev.yes (by omega) (Ev.yes (by omega) (Ev.yes (by omega) ?_))
    rw [rdT, wrap_nat (by omega)]
    unfold nestsFrom
    have N : Ev (fun k => impl_ygoodNest.f k ((l.getD i z83).f0) ((l.getD i z83).f1)) (nestB (l.getD i z83)) := by
      unfold impl_ygoodNest.f nestB
      refine (impl_ygroupName_ev _ (hf i).1).bind (Ev.ite (fun g => ?_) fun g => Ev.some (by rw [Bool.eq_false_iff.2 g]; rfl))
      rw [g, Bool.true_and]
      exact Ev.tail (impl_GoodName_ev _ (hf i).2)
    refine N.bind (Ev.ite (fun g => ?_) fun g => Ev.some (by rw [Bool.eq_false_iff.2 g]; rfl))
    rw [g, Bool.true_and]
    refine Ev.ite (fun hi => ?_) fun hi => ?_
    · obtain ⟨j, rfl⟩ : ∃ j, i = j + 1 := ⟨i - 1, by omega⟩
      rw [show wrap64 (((j + 1 : Nat) : Int) - 1) = (j : Int) from by rw [wrap_id (by omega) (by omega)]; omega, rdT]
      refine Ev.yes (by omega) (Ev.yes (by omega) ((impl_ycmpNest_ev _ _).bind (Ev.ite (fun hc => Ev.some ?_) fun hc => ?_)))
      · simp only [Nat.add_sub_cancel]
        rw [decide_eq_false (by omega), decide_eq_false (by omega)]; rfl
      · simp only [Nat.add_sub_cancel]
        rw [decide_eq_true (p := cmpN _ _ < 0) (by omega), Bool.or_true, Bool.true_and]
        exact ih (j + 1 + 1) (by omega)
    · rw [decide_eq_true (by omega), Bool.true_or, Bool.true_and]
      exact ih (i + 1) (by omega)
theorem spec_GoodNests_ev (l : List S83) (hl : l.length ≤ 1048576) (hf : fitsL l) : Ev (fun k => spec_GoodNests.f k l) (goodNests l) := by
  unfold spec_GoodNests.f goodNests
  refine Ev.ite (fun h => Ev.some ?_) fun h => ?_
  · rw [decide_eq_false (by omega)]; rfl
  · rw [decide_eq_true (by omega), Bool.true_and]
    exact spec_GoodNests_l0 l hl hf l.length 0 (by omega)
theorem impl_GoodNests_ev (l : List S83) (hl : l.length ≤ 1048576) (hf : fitsL l) : Ev (fun k => impl_GoodNests.f k l) (goodNests l) := by
  unfold impl_GoodNests.f goodNests
  refine Ev.ite (fun h => Ev.some ?_) fun h => ?_
  · rw [decide_eq_false (by omega)]; rfl
  · rw [decide_eq_true (by omega), Bool.true_and]
    exact impl_GoodNests_l0 l hl hf l.length 0 (by omega)
theorem fits_map {l : List S82} (h : ∀ x ∈ l, fitsNest x) : fitsL (l.map cvNest) := by
  intro i
  rw [List.getD_eq_getElem?_getD, List.getElem?_map]
  cases hi : l[i]? with
  | none => exact ⟨by decide, by decide⟩
  | some x => exact h x (List.mem_of_getElem? hi)
theorem FnExactGoodNests : laws_FnExactGoodNests.Pure := by
  intro l hl
  obtain ⟨_, hb, hx⟩ := hl
  apply Ev.rounds
  unfold laws_FnExactGoodNests.f
  obtain ⟨r, hr, _, hq⟩ := szNestS_to l 1048576 (by omega) (by omega) (by omega) (fun x h => hx x h)
  refine hr.bind (Ev.ite (fun _ => Ev.now _) fun hz => ?_)
  obtain ⟨hlen, hfit⟩ := hq hz
  have T := toNestS_ev l hlen
  have hlen' : (l.map cvNest).length ≤ 1048576 := by simpa using hlen
  have hf := fits_map hfit
  refine T.bind ((spec_GoodNests_ev _ hlen' hf).bind (T.bind ((impl_GoodNests_ev _ hlen' hf).bind (Ev.no (by simp) (T.bind ((eqNestS_self _ hlen').bind (Ev.yes rfl (Ev.now _))))))))

end Go.Proofs.Ytmnlgdmojbhfcab.Pure
