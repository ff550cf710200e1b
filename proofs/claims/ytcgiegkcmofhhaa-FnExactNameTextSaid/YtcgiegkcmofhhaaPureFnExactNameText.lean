/- The program's NameText answers what the reference's answers, for every list of parts.
Conditions: none but the row's own. -/
import Derived.Test.YtcgiegkcmofhhaaFitFnExactNameText
namespace Go.Proofs.Ytcgiegkcmofhhaa.Pure
open Go.RowKit Go.Proofs.Ytcgiegkcmofhhaa.PFnExactNameText Go.Proofs.YtcgiegkcmofhhaaW.PrintWords Go.Proofs.YtcgiegkcmofhhaaW.PrintLast Go.Proofs.YtcgiegkcmofhhaaOpen
set_option linter.unusedVariables false
set_option linter.unusedSimpArgs false

/-! ### from some number of rounds on -/
theorem Ev.yes {α : Type} {c : Prop} {inst : Decidable c} {A B : Nat → Option α} {r : α} (h : c) (k : Ev A r) : Ev (fun n => @ite _ c inst (A n) (B n)) r :=
  k.congr fun n => if_pos h
theorem Ev.no {α : Type} {c : Prop} {inst : Decidable c} {A B : Nat → Option α} {r : α} (h : ¬ c) (k : Ev B r) : Ev (fun n => @ite _ c inst (A n) (B n)) r :=
  k.congr fun n => if_neg h
theorem Ev.ite {α : Type} {c : Prop} {inst : Decidable c} {A B : Nat → Option α} {r : α} (h : c → Ev A r) (k : ¬ c → Ev B r) : Ev (fun n => @ite _ c inst (A n) (B n)) r := by
  by_cases e : c
  · exact Ev.yes e (h e)
  · exact Ev.no e (k e)
theorem Ev.some {α : Type} {a r : α} (h : a = r) : Ev (fun _ => some a) r := h ▸ Ev.now a
/-- A callee without rounds. -/
theorem Ev.call {α β : Type} {g : Option α} {f : Nat → α → Option β} {a : α} {r : β} (h : g = Option.some a) (k : Ev (fun n => f n a) r) : Ev (fun n => g.bind (f n)) r := by
  refine k.congr fun n => ?_
  rw [h]; rfl
theorem Ev.tail {α : Type} {g : Nat → Option α} {r : α} (h : Ev g r) : Ev (fun n => (g n).bind fun t => Option.some t) r := h.bind (Ev.now r)
theorem Ev.succ {α : Type} {g : Nat → Option α} {r : α} (h : Ev (fun k => g (k + 1)) r) : Ev g r := Ev.step (fun _ => rfl) h
theorem wrap_nat {i : Nat} (h : i < 9000000000000000000) : wrap64 ((i : Int) + 1) = ((i + 1 : Nat) : Int) := by unfold wrap64; omega
theorem wrap_id {x : Int} (h0 : -9223372036854775808 ≤ x) (h1 : x ≤ 9223372036854775807) : wrap64 x = x := by unfold wrap64; omega
theorem bt_nat (s : ByteArray) (i : Nat) (h : i < s.size) : bt s (i : Int) = (bytesOf s)[i]'(by rw [bytesOf_length]; exact h) := by
  have := rd_bytesOf s (i : Int)
  rw [← this]; unfold rd; rw [Int.toNat_natCast, List.getD_eq_getElem?_getD, List.getElem?_eq_getElem (by rw [bytesOf_length]; exact h)]; rfl
theorem drop_bytes (s : ByteArray) (i : Nat) (h : i < s.size) : (bytesOf s).drop i = bt s (i : Int) :: (bytesOf s).drop (i + 1) := by
  rw [bt_nat s i h]; exact List.drop_eq_getElem_cons (by rw [bytesOf_length]; exact h)
theorem bytes_range (s : ByteArray) : ∀ b ∈ bytesOf s, 0 ≤ b ∧ b ≤ 255 := by
  intro b hb
  unfold bytesOf at hb
  obtain ⟨x, _, rfl⟩ := List.mem_map.1 hb
  have := x.toNat_lt
  omega
/-- A loop over a string that asks each byte. -/
theorem loop_all {l : Nat → Int → Option Bool} {p : Int → Bool} {s : ByteArray}
    (yes : ∀ i : Nat, i < s.size → p (bt s i) = true → ∀ r, Ev (fun k => l k ((i + 1 : Nat) : Int)) r → Ev (fun k => l k (i : Int)) r)
    (no : ∀ i : Nat, i < s.size → p (bt s i) = false → Ev (fun k => l k (i : Int)) false)
    (done : Ev (fun k => l k (s.size : Int)) true) :
    ∀ (d i : Nat), s.size = i + d → Ev (fun k => l k (i : Int)) (((bytesOf s).drop i).all p) := by
  intro d
  induction d with
  | zero =>
    intro i h
    obtain rfl : i = s.size := by omega
    rw [List.drop_eq_nil_of_le (by rw [bytesOf_length]; exact Nat.le_refl _)]
    exact done
  | succ d ih =>
    intro i h
    rw [drop_bytes s i (by omega), List.all_cons]
    cases hp : p (bt s i) with
    | true => rw [Bool.true_and]; exact yes i (by omega) hp _ (ih (i + 1) (by omega))
    | false => rw [Bool.false_and]; exact no i (by omega) hp
/-! ### good names -/
def pDigit (a : Int) : Bool := decide (48 ≤ a ∧ a ≤ 57)
def pLetter (a : Int) : Bool := decide (97 ≤ a ∧ a ≤ 122 ∨ 65 ≤ a ∧ a ≤ 90)
def pWord (a : Int) : Bool := pLetter a || pDigit a || decide (a = 95)
def goodName (s : ByteArray) : Bool := decide (1 ≤ s.size ∧ s.size ≤ 30) && !pDigit (bt s 0) && (bytesOf s).all pWord
theorem spec_l1Digit_eq (a : Int) : spec_l1Digit.f a = some (pDigit a) := by
  unfold spec_l1Digit.f pDigit; split <;> congr 1 <;> simp <;> omega
theorem spec_l1Letter_eq (a : Int) : spec_l1Letter.f a = some (pLetter a) := by
  unfold spec_l1Letter.f pLetter; repeat' split
  all_goals (congr 1; rw [eq_comm]; first | (apply decide_eq_true; omega) | (apply decide_eq_false; omega) | (apply decide_eq_decide.2; omega))
theorem impl_ydigit_eq (a : Int) : impl_ydigit.f a = some (pDigit a) := by
  unfold impl_ydigit.f pDigit; split <;> congr 1 <;> simp <;> omega
theorem impl_yletter_eq (a : Int) : impl_yletter.f a = some (pLetter a) := by
  unfold impl_yletter.f pLetter; repeat' split
  all_goals (congr 1; rw [eq_comm]; first | (apply decide_eq_true; omega) | (apply decide_eq_false; omega) | (apply decide_eq_decide.2; omega))
theorem impl_ywordByte_eq (a : Int) : impl_ywordByte.f a = some (pWord a) := by
  unfold impl_ywordByte.f pWord
  rw [impl_yletter_eq, Option.bind_some, impl_ydigit_eq, Option.bind_some]
  cases pLetter a <;> cases pDigit a <;> simp [BEq.beq]
theorem size_bytes_nil (s : ByteArray) : s.toList = ([] : List UInt8) ↔ s.size = 0 := by
  have h : s.toList = s.data.toList := ByteArray.toList_eq s
  rw [h]
  constructor
  · intro h; have := congrArg List.length h; simpa using this
  · intro h; apply List.eq_nil_of_length_eq_zero; simpa using h
theorem spec_GoodName_l0 (s : ByteArray) (hs : s.size ≤ 1048576) (i : Nat) (hi : i ≤ s.size) : Ev (fun k => spec_GoodName.l0 k s (i : Int)) (((bytesOf s).drop i).all pWord) := by
  refine loop_all (l := fun k i => spec_GoodName.l0 k s i) ?_ ?_ ?_ (s.size - i) i (by omega)
  · intro i h hp r hr
    refine Ev.step (fun _ => rfl) (Ev.yes (by omega) (Ev.yes (by omega) (Ev.call (spec_l1Letter_eq _) ?_)))
    rw [← wrap_nat (by omega)] at hr
    refine Ev.ite (fun _ => hr) fun h1 => Ev.call (spec_l1Digit_eq _) (Ev.ite (fun _ => hr) fun h2 => Ev.ite (fun _ => hr) fun h3 => ?_)
    exfalso
    unfold pWord at hp
    simp [h1, h2, h3] at hp
  · intro i h hp
    refine Ev.step (fun _ => rfl) (Ev.yes (by omega) (Ev.yes (by omega) (Ev.call (spec_l1Letter_eq _) ?_)))
    unfold pWord at hp
    simp only [Bool.or_eq_false_iff, decide_eq_false_iff_not] at hp
    refine Ev.no (by simp [hp.1.1]) (Ev.call (spec_l1Digit_eq _) (Ev.no (by simp [hp.1.2]) (Ev.no hp.2 (Ev.now _))))
  · exact Ev.step (fun _ => rfl) (Ev.no (by omega) (Ev.now _))
theorem spec_GoodName_ev (s : ByteArray) (hs : s.size ≤ 1048576) : Ev (fun k => spec_GoodName.f k s) (goodName s) := by
  unfold spec_GoodName.f goodName
  have H : Ev (fun k => spec_GoodName.l0 k s 0) ((bytesOf s).all pWord) := spec_GoodName_l0 s hs 0 (by omega)
  have hf : ∀ b : Bool, Ev (fun k => spec_GoodName.j0 k s b) (!b && (bytesOf s).all pWord) := by
    intro b
    cases b with
    | true => apply Ev.succ; simp only [spec_GoodName.j0, if_true, Bool.not_true, Bool.false_and]; exact Ev.now _
    | false => apply Ev.succ; simp only [spec_GoodName.j0, Bool.false_eq_true, if_false, Bool.not_false, Bool.true_and]; exact H
  refine Ev.ite (fun h => ?_) fun h => Ev.ite (fun h' => ?_) fun h' => Ev.yes (by omega) (Ev.call (spec_l1Digit_eq _) ?_)
  · rw [decide_eq_false (by omega)]; exact hf true
  · rw [decide_eq_false (by omega)]; exact hf true
  · rw [decide_eq_true (by omega), Bool.true_and]; exact hf _
theorem impl_GoodName_l0 (s : ByteArray) (hs : s.size ≤ 1048576) (i : Nat) (hi : i ≤ s.size) : Ev (fun k => impl_GoodName.l0 k s (s.size : Int) (i : Int)) (((bytesOf s).drop i).all pWord) := by
  refine loop_all (l := fun k i => impl_GoodName.l0 k s (s.size : Int) i) ?_ ?_ ?_ (s.size - i) i (by omega)
  · intro i h hp r hr
    rw [← wrap_nat (by omega)] at hr
    exact Ev.step (fun _ => rfl) (Ev.yes (by omega) (Ev.yes (by omega) (Ev.yes (by omega) (Ev.call (impl_ywordByte_eq _) (Ev.yes hp hr)))))
  · intro i h hp
    exact Ev.step (fun _ => rfl) (Ev.yes (by omega) (Ev.yes (by omega) (Ev.yes (by omega) (Ev.call (impl_ywordByte_eq _) (Ev.no (by simp [hp]) (Ev.now _))))))
  · exact Ev.step (fun _ => rfl) (Ev.no (by omega) (Ev.now _))
theorem impl_GoodName_ev (s : ByteArray) (hs : s.size ≤ 1048576) : Ev (fun k => impl_GoodName.f k s) (goodName s) := by
  unfold impl_GoodName.f goodName
  have H : Ev (fun k => impl_GoodName.l0 k s (s.size : Int) 0) ((bytesOf s).all pWord) := impl_GoodName_l0 s hs 0 (by omega)
  have hf : ∀ b : Bool, Ev (fun k => impl_GoodName.j0 k s b) (!b && (bytesOf s).all pWord) := by
    intro b
    cases b with
    | true => apply Ev.succ; simp only [impl_GoodName.j0, if_true, Bool.not_true, Bool.false_and]; exact Ev.now _
    | false => apply Ev.succ; simp only [impl_GoodName.j0, Bool.false_eq_true, if_false, Bool.not_false, Bool.true_and]; exact H
  refine Ev.ite (fun h => ?_) fun h => Ev.ite (fun h' => ?_) fun h' => ?_
  · rw [size_bytes_nil] at h; rw [decide_eq_false (by omega)]; exact hf true
  · rw [decide_eq_false (by omega)]; exact hf true
  · rw [size_bytes_nil] at h; rw [decide_eq_true (by omega), Bool.true_and]; exact Ev.yes (by omega) (Ev.call (impl_ydigit_eq _) (hf _))
/-! ### printed texts, empty texts -/
def emptyB (s : ByteArray) : Bool := decide (s.size = 0)
def pPrinted (b : Int) : Bool := decide (32 ≤ b ∧ b ≤ 126)
def printed (s : ByteArray) : Bool := (bytesOf s).all pPrinted
theorem nil_iff (s : ByteArray) : s.toList = ([] : List UInt8) ↔ emptyB s = true := by rw [size_bytes_nil]; simp [emptyB]
theorem nil_beq (s : ByteArray) : (s.toList == ([] : List UInt8)) = emptyB s := by
  rw [Bool.eq_iff_iff, beq_iff_eq, nil_iff]
theorem nil_bne (s : ByteArray) : (s.toList != ([] : List UInt8)) = !emptyB s := by
  rw [bne, nil_beq]
theorem spec_l1Printed_ev (s : ByteArray) (hs : s.size ≤ 1048576) : Ev (fun k => spec_l1Printed.f k s) (printed s) := by
  unfold spec_l1Printed.f printed
  refine loop_all (l := fun k i => spec_l1Printed.l0 k s i) (p := pPrinted) ?_ ?_ ?_ s.size 0 (by omega)
  · intro i h hp r hr
    have hp := of_decide_eq_true hp
    refine Ev.succ ?_
    simp only [spec_l1Printed.l0]
    rw [← wrap_nat (by omega)] at hr
    exact Ev.yes (by omega) (Ev.yes (by omega) (Ev.no (by omega) (Ev.no (by omega) hr)))
  · intro i h hp
    have hp := of_decide_eq_false hp
    refine Ev.succ ?_
    simp only [spec_l1Printed.l0]
    exact Ev.yes (by omega) (Ev.yes (by omega) (Ev.ite (fun _ => Ev.now _) fun h1 => Ev.ite (fun _ => Ev.now _) fun h2 => by omega))
  · refine Ev.succ ?_
    simp only [spec_l1Printed.l0]
    exact Ev.no (by omega) (Ev.now _)
theorem impl_yprinted_ev (s : ByteArray) (lo hi : Nat) (hs : s.size ≤ 1048576) : Ev (fun k => impl_yprinted.f k s (lo : Int) (hi : Int)) (decide (lo ≤ s.size ∧ s.size ≤ hi) && printed s) := by
  have hf : ∀ b : Bool, b = decide (¬ (lo ≤ s.size ∧ s.size ≤ hi)) → Ev (fun k => impl_yprinted.j0 k s b) (decide (lo ≤ s.size ∧ s.size ≤ hi) && printed s) := by
    intro b hb
    refine Ev.succ ?_
    simp only [impl_yprinted.j0]
    refine Ev.ite (fun h => ?_) fun h => ?_
    · rw [hb] at h
      rw [decide_eq_false (of_decide_eq_true h), Bool.false_and]; exact Ev.now _
    · have h' : lo ≤ s.size ∧ s.size ≤ hi := Classical.byContradiction fun z => h (by rw [hb]; exact decide_eq_true z)
      rw [decide_eq_true h', Bool.true_and]
      unfold printed
      refine loop_all (l := fun k i => impl_yprinted.l0 k s (s.size : Int) i) (p := pPrinted) ?_ ?_ ?_ s.size 0 (by omega)
      · intro i h hp r hr
        have hp := of_decide_eq_true hp
        refine Ev.succ ?_
        simp only [impl_yprinted.l0]
        rw [← wrap_nat (by omega)] at hr
        exact Ev.yes (by omega) (Ev.yes (by omega) (Ev.yes (by omega) (Ev.no (by omega) (Ev.no (by omega) hr))))
      · intro i h hp
        have hp := of_decide_eq_false hp
        refine Ev.succ ?_
        simp only [impl_yprinted.l0]
        exact Ev.yes (by omega) (Ev.yes (by omega) (Ev.yes (by omega) (Ev.ite (fun _ => Ev.now _) fun h1 => Ev.ite (fun _ => Ev.now _) fun h2 => by omega)))
      · refine Ev.succ ?_
        simp only [impl_yprinted.l0]
        exact Ev.no (by omega) (Ev.now _)
  unfold impl_yprinted.f
  refine Ev.ite (fun h => hf _ ?_) fun h => hf _ ?_
  · rw [decide_eq_true (by omega)]
  · rw [decide_eq_decide]; omega
/-! ### lists of numbers, and what the law's own functions do with bytes -/
theorem rd_nat (l : List Int) (i : Nat) (h : i < l.length) : rd l (i : Int) = l[i] := by
  unfold rd; rw [Int.toNat_natCast, List.getD_eq_getElem?_getD, List.getElem?_eq_getElem h]; rfl
theorem set_step {β : Type} (xs : List β) (z : β) (i : Nat) (h : i < xs.length) :
    (xs.take i ++ List.replicate (xs.length - i) z).set i xs[i] = xs.take (i + 1) ++ List.replicate (xs.length - (i + 1)) z := by
  obtain ⟨d, hd⟩ : ∃ d, xs.length - i = d + 1 := ⟨xs.length - i - 1, by omega⟩
  rw [hd, show xs.length - (i + 1) = d by omega, List.replicate_succ, List.set_append_right _ _ (by simp; omega)]
  rw [show i - (xs.take i).length = 0 by simp; omega, List.set_cons_zero, List.take_succ_eq_append_getElem h, List.append_assoc]; rfl
theorem fill_len {β : Type} (xs : List β) (z : β) (i : Nat) (h : i ≤ xs.length) : (xs.take i ++ List.replicate (xs.length - i) z).length = xs.length := by simp; omega
/-! ### what is left of the law's measure -/
def szA (m a : Int) : Int := if m - a < 0 then -1 else m - a
theorem szA_neg {m a : Int} : ¬ szA m a < 0 ↔ a ≤ m := by unfold szA; split <;> omega
theorem szA_ok {m a : Int} (h : ¬ szA m a < 0) : szA m a = m - a ∧ a ≤ m := by
  unfold szA at *
  by_cases e : m - a < 0
  · rw [if_pos e] at h; omega
  · rw [if_neg e]; omega
/-! ### the loops of the law's own functions, whatever the elements -/
theorem self_loop {L : Nat → Int → Option Bool} {n : Nat} (step : ∀ i : Nat, i < n → Ev (fun k => L k ((i + 1 : Nat) : Int)) true → Ev (fun k => L k (i : Int)) true) (done : Ev (fun k => L k (n : Int)) true) :
    ∀ (d i : Nat), n = i + d → Ev (fun k => L k (i : Int)) true := by
  intro d
  induction d with
  | zero => intro i h; obtain rfl : n = i := by omega
            exact done
  | succ d ih => intro i h; exact step i (by omega) (ih (i + 1) (by omega))
theorem to_loop {α β : Type} {L : Nat → List β → Int → Option (List β)} {l : List α} {g : α → β} {z : β}
    (step : ∀ (i : Nat) (h : i < l.length) (o : List β), o.length = l.length → ∀ r, Ev (fun k => L k (o.set i (g l[i])) ((i + 1 : Nat) : Int)) r → Ev (fun k => L k o (i : Int)) r)
    (done : ∀ o : List β, Ev (fun k => L k o (l.length : Int)) o) :
    ∀ (d i : Nat), l.length = i + d → Ev (fun k => L k ((l.map g).take i ++ List.replicate (l.length - i) z) (i : Int)) (l.map g) := by
  intro d
  induction d with
  | zero =>
    intro i h
    obtain rfl : i = l.length := by omega
    rw [Nat.sub_self, List.replicate_zero, List.append_nil, List.take_of_length_le (by simp)]
    exact done _
  | succ d ih =>
    intro i h
    refine step i (by omega) _ (by simp; omega) _ ?_
    have e := set_step (l.map g) z i (by simp; omega)
    simp only [List.length_map, List.getElem_map] at e
    rw [e]
    exact ih (i + 1) (by omega)
/-- What a measure tells: what is left, and that all it measured fits. -/
def SzTo (g : Nat → Option Int) (m : Int) (Q : Prop) : Prop := ∃ r, Ev g r ∧ r ≤ m ∧ (¬ r < 0 → Q)
theorem sz_loop {α : Type} {L : Nat → Int → Int → Option Int} {l : List α} {Q : α → Prop}
    (step : ∀ (i : Nat) (h : i < l.length) (m : Int), 0 ≤ m → m ≤ 1048576 → ∃ r, r ≤ m ∧ (¬ r < 0 → Q l[i]) ∧ (r < 0 → Ev (fun k => L k m (i : Int)) (-1)) ∧ (¬ r < 0 → ∀ s, Ev (fun k => L k r ((i + 1 : Nat) : Int)) s → Ev (fun k => L k m (i : Int)) s))
    (done : ∀ m : Int, Ev (fun k => L k m (l.length : Int)) m) :
    ∀ (d i : Nat) (m : Int), l.length = i + d → 0 ≤ m → m ≤ 1048576 → SzTo (fun k => L k m (i : Int)) m (∀ x ∈ l.drop i, Q x) := by
  intro d
  induction d with
  | zero =>
    intro i m h h0 h1
    obtain rfl : i = l.length := by omega
    exact ⟨m, done m, Int.le_refl _, fun _ x hx => by rw [List.drop_length] at hx; simp at hx⟩
  | succ d ih =>
    intro i m h h0 h1
    obtain ⟨r, hr, hq, hneg, hpos⟩ := step i (by omega) m h0 h1
    by_cases hz : r < 0
    · exact ⟨-1, hneg hz, by omega, fun h => absurd (by omega) h⟩
    · obtain ⟨s, hs, hle, hall⟩ := ih (i + 1) r (by omega) (by omega) (by omega)
      refine ⟨s, hpos hz s hs, by omega, fun hn x hx => ?_⟩
      rw [List.drop_eq_getElem_cons (show i < l.length by omega)] at hx
      rcases List.mem_cons.1 hx with rfl | hx
      · exact hq hz
      · exact hall hn x hx
/-! ### the first that is so -/
def findI {α : Type} (p : α → Bool) : List α → Int → Int
  | [], _ => -1
  | x :: l, i => if p x = true then i else findI p l (i + 1)
theorem findI_any {α : Type} (p : α → Bool) : ∀ (l : List α) (i : Int), 0 ≤ i → decide (findI p l i ≥ 0) = l.any p
  | [], i, _ => rfl
  | x :: l, i, h => by
    unfold findI
    rw [List.any_cons]
    cases hp : p x with
    | true => rw [if_pos rfl, Bool.true_or]; exact decide_eq_true h
    | false => rw [if_neg (by simp), Bool.false_or]; exact findI_any p l (i + 1) (by omega)
theorem find_loop {α : Type} {L : Nat → Int → Option Int} {l : List α} {p : α → Bool}
    (step : ∀ (i : Nat) (h : i < l.length), (p l[i] = true → Ev (fun k => L k (i : Int)) (i : Int)) ∧ (p l[i] = false → ∀ r, Ev (fun k => L k ((i + 1 : Nat) : Int)) r → Ev (fun k => L k (i : Int)) r))
    (done : Ev (fun k => L k (l.length : Int)) (-1)) : ∀ (d i : Nat), l.length = i + d → Ev (fun k => L k (i : Int)) (findI p (l.drop i) (i : Int)) := by
  intro d
  induction d with
  | zero =>
    intro i h
    obtain rfl : i = l.length := by omega
    rw [List.drop_length]; exact done
  | succ d ih =>
    intro i h
    rw [List.drop_eq_getElem_cons (show i < l.length by omega)]
    unfold findI
    obtain ⟨h1, h2⟩ := step i (by omega)
    cases hp : p l[i] with
    | true => rw [if_pos rfl]; exact h1 hp
    | false => rw [if_neg (by simp)]; exact h2 hp _ (ih (i + 1) (by omega))
/-- A loop over the places of a list that stops at the first that isn't so. -/
theorem all_loop {α : Type} {L : Nat → Int → Option Bool} {l : List α} {p : α → Bool} {z : Bool}
    (step : ∀ (i : Nat) (h : i < l.length), (p l[i] = false → Ev (fun k => L k (i : Int)) false) ∧ (p l[i] = true → ∀ r, Ev (fun k => L k ((i + 1 : Nat) : Int)) r → Ev (fun k => L k (i : Int)) r))
    (done : Ev (fun k => L k (l.length : Int)) z) : ∀ (d i : Nat), l.length = i + d → Ev (fun k => L k (i : Int)) ((l.drop i).all p && z) := by
  intro d
  induction d with
  | zero =>
    intro i h
    obtain rfl : i = l.length := by omega
    rw [List.drop_length, List.all_nil, Bool.true_and]; exact done
  | succ d ih =>
    intro i h
    rw [List.drop_eq_getElem_cons (show i < l.length by omega), List.all_cons]
    obtain ⟨h1, h2⟩ := step i (by omega)
    cases hp : p l[i] with
    | true => rw [Bool.true_and]; exact h2 hp _ (ih (i + 1) (by omega))
    | false => rw [Bool.false_and, Bool.false_and]; exact h1 hp
/-! ### names of entries -/
def cvPart (x : S76) : S78 := ⟨x.f0, x.f1⟩
theorem eqPart_self (y0 : ByteArray) (y1 : ByteArray) : laws_eqPart.f y0 y1 y0 y1 = some true := by
  simp [laws_eqPart.f]
theorem eqPartS_self (a : List S78) (ha : a.length ≤ 1048576) : Ev (fun k => laws_eqPartS.f k a a) true := by
  unfold laws_eqPartS.f
  refine Ev.yes rfl (self_loop (L := fun k i => laws_eqPartS.l0 k a a i) (n := a.length) (fun i hi hr => ?_) ?_ a.length 0 (by omega))
  · refine Ev.succ ?_
    simp only [laws_eqPartS.l0]
    rw [← wrap_nat (by omega)] at hr
    exact Ev.yes (by omega) (Ev.yes (by omega) (Ev.yes (by omega) (Ev.call (eqPart_self _ _) (Ev.yes rfl hr))))
  · refine Ev.succ ?_
    simp only [laws_eqPartS.l0]
    exact Ev.no (by omega) (Ev.now _)
theorem toPartS_ev (l : List S76) (hl : l.length ≤ 1048576) : Ev (fun k => laws_toPartS.f k l) (l.map cvPart) := by
  unfold laws_toPartS.f
  refine Ev.yes (by omega) (Ev.yes (by omega) ?_)
  refine to_loop (L := fun k o i => laws_toPartS.l0 k l o i) (g := cvPart) (z := z78) ?_ ?_ l.length 0 (by omega)
  · intro i h o ho r hr
    refine Ev.succ ?_
    simp only [laws_toPartS.l0]
    refine Ev.yes (by omega) (Ev.yes (by omega) ?_)
    simp only [laws_toPart.f, Option.bind_some]
    refine Ev.yes (by omega) ?_
    rw [wrap_nat (by omega), Int.toNat_natCast]
    have e : rd_T76 l (i : Int) = l[i] := by unfold rd_T76; rw [Int.toNat_natCast, List.getD_eq_getElem?_getD, List.getElem?_eq_getElem h]; rfl
    rw [e]
    exact hr
  · intro o
    refine Ev.succ ?_
    simp only [laws_toPartS.l0]
    exact Ev.no (by omega) (Ev.now _)
def fitsPart (x : S76) : Prop := (x.f0).size ≤ 1048576 ∧ (x.f1).size ≤ 1048576
theorem szPart_to (x : S76) (m : Int) (h0 : 0 ≤ m) (h1 : m ≤ 1048576) (hx : (x.f0).size ≤ 140737488351232 ∧ (x.f1).size ≤ 140737488351232) : ∃ r, laws_szPart.f x.f0 x.f1 m = some r ∧ r ≤ m ∧ (¬ r < 0 → fitsPart x) := by
  unfold fitsPart laws_szPart.f
  simp only [wrap64]
  repeat' split
  all_goals first | exact ⟨_, rfl, by omega, by omega⟩ | (simp only [Option.bind_some]; (repeat' split); all_goals exact ⟨_, rfl, by omega, by omega⟩) | (refine ⟨_, rfl, ?_, ?_⟩ <;> simp <;> omega)
theorem szPartS_to (l : List S76) (m : Int) (h0 : 0 ≤ m) (h1 : m ≤ 1048576) (hl : l.length ≤ 140737488351232) (hx : ∀ x ∈ l, (x.f0).size ≤ 140737488351232 ∧ (x.f1).size ≤ 140737488351232) : SzTo (fun k => laws_szPartS.f k l m) m (l.length ≤ 1048576 ∧ ∀ x ∈ l, fitsPart x) := by
  unfold laws_szPartS.f
  rw [wrap_id (x := m - (l.length : Int)) (by omega) (by omega)]
  by_cases hn : m - (l.length : Int) < 0
  · exact ⟨-1, Ev.yes hn (Ev.now _), by omega, fun h => absurd (by omega) h⟩
  · have H := sz_loop (L := fun k m i => laws_szPartS.l0 k l m i) (Q := fitsPart) (l := l) (fun i h m h0 h1 => by
      have e : rd_T76 l (i : Int) = l[i] := by unfold rd_T76; rw [Int.toNat_natCast, List.getD_eq_getElem?_getD, List.getElem?_eq_getElem h]; rfl
      obtain ⟨r, h2, h3, h4⟩ := szPart_to l[i] m h0 h1 (hx _ (List.getElem_mem h))
      refine ⟨r, h3, h4, fun hz => ?_, fun hz s hs => ?_⟩
      · refine Ev.succ ?_
        simp only [laws_szPartS.l0]
        rw [e]
        exact Ev.yes (by omega) (Ev.yes (by omega) (Ev.call h2 (Ev.yes hz (Ev.now _))))
      · refine Ev.succ ?_
        simp only [laws_szPartS.l0]
        rw [e]
        rw [← wrap_nat (by omega)] at hs
        exact Ev.yes (by omega) (Ev.yes (by omega) (Ev.call h2 (Ev.no hz hs)))) (fun m => by
      refine Ev.succ ?_
      simp only [laws_szPartS.l0]
      exact Ev.no (by omega) (Ev.now _)) l.length 0 (m - (l.length : Int)) (by omega) (by omega) (by omega)
    obtain ⟨r, hr, hle, hq⟩ := H
    exact ⟨r, Ev.no hn hr, by omega, fun h => ⟨by omega, fun x hx => hq h x (by simpa using hx)⟩⟩
theorem rd_impl_Part (l : List S78) (i : Nat) (h : i < l.length) : rd_T78 l (i : Int) = l[i] := by
  unfold rd_T78; rw [Int.toNat_natCast, List.getD_eq_getElem?_getD, List.getElem?_eq_getElem h]; rfl
def goodPart (n : Nat) (x : S78) : Bool := goodName x.f0 && (decide (1 ≤ x.f1.size ∧ x.f1.size ≤ n) && printed x.f1)
def goodDirName (l : List S78) : Bool := decide (l.length ≤ 8) && l.all (goodPart 60)
def fitPart (x : S78) : Prop := x.f0.size ≤ 1048576 ∧ x.f1.size ≤ 1048576
theorem fit_cvPart {l : List S76} (h : ∀ x ∈ l, fitsPart x) : ∀ x ∈ l.map cvPart, fitPart x := by
  intro x hx
  obtain ⟨y, hy, rfl⟩ := List.mem_map.1 hx
  exact h y hy
theorem spec_GoodDirName_ev (l : List S78) (hl : l.length ≤ 1048576) (hf : ∀ x ∈ l, fitPart x) : Ev (fun k => spec_GoodDirName.f k l) (goodDirName l) := by
  unfold spec_GoodDirName.f goodDirName
  rw [Bool.and_comm]
  refine all_loop (L := fun k i => spec_GoodDirName.l0 k l l (l.length : Int) i) (p := goodPart 60) (z := decide (l.length ≤ 8)) (fun i h => ?_) ?_ l.length 0 (by omega)
  · have fx := hf _ (List.getElem_mem h)
    constructor
    · intro hp
      refine Ev.succ ?_
      simp only [spec_GoodDirName.l0]
      refine Ev.yes (by omega) (Ev.yes (by omega) (Ev.yes (by omega) ?_))
      rw [rd_impl_Part l i h]
      refine (spec_GoodName_ev _ fx.1).bind (Ev.ite (fun g => Ev.ite (fun _ => Ev.now _) fun h1 => Ev.ite (fun _ => Ev.now _) fun h2 => ?_) fun _ => Ev.now _)
      refine (spec_l1Printed_ev _ fx.2).bind (Ev.ite (fun g' => ?_) fun _ => Ev.now _)
      exfalso
      unfold goodPart at hp
      rw [g, g', decide_eq_true (by omega)] at hp
      exact absurd hp (by simp)
    · intro hp r hr
      unfold goodPart at hp
      simp only [Bool.and_eq_true, decide_eq_true_eq] at hp
      refine Ev.succ ?_
      simp only [spec_GoodDirName.l0]
      refine Ev.yes (by omega) (Ev.yes (by omega) (Ev.yes (by omega) ?_))
      rw [rd_impl_Part l i h]
      rw [← wrap_nat (by omega)] at hr
      exact (spec_GoodName_ev _ fx.1).bind (Ev.yes hp.1 (Ev.no (by omega) (Ev.no (by omega) ((spec_l1Printed_ev _ fx.2).bind (Ev.yes hp.2.2 hr)))))
  · refine Ev.succ ?_
    simp only [spec_GoodDirName.l0]
    refine Ev.no (by omega) (Ev.some ?_)
    rw [decide_eq_decide]; omega
theorem impl_ygoodPart_ev (x : S78) (n : Nat) (hx : fitPart x) : Ev (fun k => impl_ygoodPart.f k x.f0 x.f1 (n : Int)) (goodPart n x) := by
  unfold impl_ygoodPart.f goodPart
  refine (impl_GoodName_ev _ hx.1).bind (Ev.ite (fun g => ?_) fun g => Ev.some (by rw [Bool.eq_false_iff.2 g]; rfl))
  rw [g, Bool.true_and]
  exact Ev.tail (impl_yprinted_ev x.f1 1 n hx.2)
theorem impl_GoodDirName_ev (l : List S78) (hl : l.length ≤ 1048576) (hf : ∀ x ∈ l, fitPart x) : Ev (fun k => impl_GoodDirName.f k l) (goodDirName l) := by
  unfold impl_GoodDirName.f goodDirName
  refine Ev.ite (fun h => ?_) fun h => Ev.some ?_
  · rw [decide_eq_true (by omega), Bool.true_and]
    have e : l.all (goodPart 60) = !(l.any fun x => !goodPart 60 x) := by
      rw [List.all_eq_not_any_not]
    rw [e]
    refine Ev.bind (a := l.any fun x => !goodPart 60 x) ?_ (Ev.now _)
    unfold slices_ContainsFunc_impl_GoodDirName_1.f
    rw [← findI_any _ l 0 (by omega)]
    refine Ev.bind (a := findI (fun x => !goodPart 60 x) l 0) ?_ (Ev.now _)
    unfold slices_IndexFunc_impl_GoodDirName_1.f
    refine find_loop (L := fun k i => slices_IndexFunc_impl_GoodDirName_1.l0 k l (l.length : Int) i) (p := fun x => !goodPart 60 x) (fun i h => ?_) ?_ l.length 0 (by omega)
    · have fx := hf _ (List.getElem_mem h)
      have C : Ev (fun k => impl_GoodDirName_1.f k l[i].f0 l[i].f1) (!goodPart 60 l[i]) := by
        unfold impl_GoodDirName_1.f
        exact (impl_ygoodPart_ev l[i] 60 fx).bind (Ev.now _)
      constructor
      · intro hp
        refine Ev.succ ?_
        simp only [slices_IndexFunc_impl_GoodDirName_1.l0]
        rw [rd_impl_Part l i h]
        exact Ev.yes (by omega) (Ev.yes (by omega) (Ev.yes (by omega) (C.bind (Ev.yes hp (Ev.now _)))))
      · intro hp r hr
        refine Ev.succ ?_
        simp only [slices_IndexFunc_impl_GoodDirName_1.l0]
        rw [rd_impl_Part l i h]
        rw [← wrap_nat (by omega)] at hr
        exact Ev.yes (by omega) (Ev.yes (by omega) (Ev.yes (by omega) (C.bind (Ev.no (by rw [hp]; decide) hr))))
    · refine Ev.succ ?_
      simp only [slices_IndexFunc_impl_GoodDirName_1.l0]
      exact Ev.no (by omega) (Ev.now _)
  · rw [decide_eq_false (by omega)]; rfl
/-! ### names as texts -/
abbrev Pt : Type := S78
abbrev sepS : ByteArray := ⟨#[44, 92]⟩
def escB (s : ByteArray) : ByteArray := ⟨(escL sepS s.data.toList).toArray⟩
def escC (c : Int) : List Int := if c = 44 ∨ c = 92 then [92, c] else [c]
def escI (l : List Int) : List Int := l.flatMap escC
theorem idx_iff (c : UInt8) : Lib.indexByte [44, 92] c ≥ 0 ↔ (c = 44 ∨ c = 92) := by
  unfold Lib.indexByte Lib.indexByte Lib.indexByte
  by_cases h1 : c = 44
  · subst h1; decide
  · by_cases h2 : c = 92
    · subst h2; decide
    · have e1 : ((44 : UInt8) == c) = false := beq_eq_false_iff_ne.2 fun h => h1 h.symm
      have e2 : ((92 : UInt8) == c) = false := beq_eq_false_iff_ne.2 fun h => h2 h.symm
      rw [e1, e2]
      simp [h1, h2]
theorem u8_val (c : UInt8) (n : Nat) (hn : n < 256) : ((c.toNat : Nat) : Int) = (n : Int) ↔ c = UInt8.ofNat n := by
  constructor
  · intro h
    have h : c.toNat = n := by omega
    rw [← h]; simp
  · rintro rfl
    simp [Nat.mod_eq_of_lt hn]
theorem esc_nums : ∀ l : List UInt8, (escI (l.map fun b => (b.toNat : Int))).map (fun n => UInt8.ofNat n.toNat) = escL sepS l
  | [] => rfl
  | c :: l => by
    have ih := esc_nums l
    unfold escI escL at *
    rw [List.map_cons, List.flatMap_cons, List.map_append, ih, List.flatMap_cons]
    congr 1
    have i1 := u8_val c 44 (by omega)
    have i2 := u8_val c 92 (by omega)
    have hi := idx_iff c
    unfold escC
    by_cases h : c = 44 ∨ c = 92
    · rw [if_pos (hi.2 h), if_pos (by rcases h with h | h; exact Or.inl (i1.2 h); exact Or.inr (i2.2 h))]
      simp
    · rw [if_neg (fun q => h (hi.1 q)), if_neg (fun q => h (by rcases q with q | q; exact Or.inl (i1.1 q); exact Or.inr (i2.1 q)))]
      simp
theorem escB_nums (s : ByteArray) : strOfNums (escI (bytesOf s)) = escB s := by
  unfold strOfNums escB bytesOf
  rw [esc_nums]
theorem escI_len : ∀ l : List Int, (escI l).length ≤ 2 * l.length
  | [] => Nat.le_refl _
  | c :: l => by
    have h := escI_len l
    unfold escI at *
    rw [List.flatMap_cons, List.length_append, List.length_cons]
    have h2 : (escC c).length ≤ 2 := by unfold escC; split <;> simp
    omega
theorem lenIf {p : Prop} [Decidable p] (y : List Int) : (if p then y ++ [92] else y).length ≤ y.length + 1 := by split <;> simp
theorem escI_take (s : ByteArray) (i : Nat) (h : i < s.size) : escI ((bytesOf s).take (i + 1)) = escI ((bytesOf s).take i) ++ escC (bt s (i : Int)) := by
  rw [List.take_succ_eq_append_getElem (by rw [bytesOf_length]; exact h), ← bt_nat s i h]
  unfold escI
  rw [List.flatMap_append]
  simp
theorem spec_l3Escaped_l0 (s : ByteArray) (hs : s.size ≤ 1048576) : ∀ (d i : Nat), s.size = i + d → Ev (fun k => spec_l3Escaped.l0 k s sepS (escI ((bytesOf s).take i)) (i : Int)) (escB s) := by
  intro d
  induction d with
  | zero =>
    intro i h
    refine Ev.succ ?_
    simp only [spec_l3Escaped.l0]
    refine Ev.no (by omega) (Ev.some ?_)
    rw [List.take_of_length_le (by rw [bytesOf_length]; omega), escB_nums]
  | succ d ih =>
    intro i h
    have z := ih (i + 1) (by omega)
    rw [escI_take s i (by omega)] at z
    have hl : (escI ((bytesOf s).take i)).length ≤ 2 * i := Nat.le_trans (escI_len _) (by rw [List.length_take]; omega)
    generalize escI ((bytesOf s).take i) = x at z hl
    generalize hc : bt s (i : Int) = c at z
    have b0 : bt sepS 0 = 44 := rfl
    have b1 : bt sepS 1 = 92 := rfl
    have S2 : ∀ y : List Int, y.length ≤ 2 * i + 2 → Ev (fun k => spec_l3Escaped.l0 k s sepS (y ++ [c]) ((i + 1 : Nat) : Int)) (escB s) → Ev (fun k => spec_l3Escaped.l1 k s sepS y (i : Int) 2) (escB s) := by
      intro y hy hr
      refine Ev.succ ?_
      simp only [spec_l3Escaped.l1]
      rw [hc, wrap_nat (i := i) (by omega)]
      exact Ev.no (by decide) (Ev.yes (by omega) (Ev.yes (by omega) (Ev.yes (by omega) hr)))
    have S1 : ∀ y : List Int, y.length ≤ 2 * i + 1 → Ev (fun k => spec_l3Escaped.l1 k s sepS (if c = 92 then y ++ [92] else y) (i : Int) 2) (escB s) → Ev (fun k => spec_l3Escaped.l1 k s sepS y (i : Int) 1) (escB s) := by
      intro y hy hr
      refine Ev.succ ?_
      simp only [spec_l3Escaped.l1]
      rw [hc, b1, show wrap64 (1 + 1) = 2 from by unfold wrap64; omega]
      refine Ev.yes (by decide) (Ev.yes (by omega) (Ev.yes (by omega) (Ev.yes (by omega) (Ev.ite (fun e => Ev.yes (by omega) ?_) fun e => ?_))))
      · rw [if_pos e] at hr; exact hr
      · rw [if_neg e] at hr; exact hr
    have S0 : ∀ y : List Int, y.length ≤ 2 * i → Ev (fun k => spec_l3Escaped.l1 k s sepS (if c = 44 then y ++ [92] else y) (i : Int) 1) (escB s) → Ev (fun k => spec_l3Escaped.l1 k s sepS y (i : Int) 0) (escB s) := by
      intro y hy hr
      refine Ev.succ ?_
      simp only [spec_l3Escaped.l1]
      rw [hc, b0, show wrap64 (0 + 1) = 1 from by unfold wrap64; omega]
      refine Ev.yes (by decide) (Ev.yes (by omega) (Ev.yes (by omega) (Ev.yes (by omega) (Ev.ite (fun e => Ev.yes (by omega) ?_) fun e => ?_))))
      · rw [if_pos e] at hr; exact hr
      · rw [if_neg e] at hr; exact hr
    refine Ev.succ ?_
    simp only [spec_l3Escaped.l0]
    refine Ev.yes (by omega) (S0 _ hl (S1 _ (Nat.le_trans (lenIf x) (by omega)) (S2 _ (Nat.le_trans (lenIf _) (Nat.le_trans (Nat.succ_le_succ (lenIf x)) (by omega))) ?_)))
    unfold escC at z
    by_cases h1 : c = 44
    · subst h1
      simpa using z
    · by_cases h2 : c = 92
      · subst h2
        simpa using z
      · simpa [h1, h2] using z
theorem spec_l3Escaped_ev (s : ByteArray) (hs : s.size ≤ 1048576) : Ev (fun k => spec_l3Escaped.f k s sepS) (escB s) := by
  unfold spec_l3Escaped.f
  exact spec_l3Escaped_l0 s hs s.size 0 (by omega)
theorem escB_size (s : ByteArray) : (escB s).size ≤ 2 * s.size := by
  have h := escL_len sepS s.data.toList
  have e : (escB s).size = (escL sepS s.data.toList).length := by unfold escB; simp [ByteArray.size]
  rw [e]
  rw [Array.length_toList] at h
  exact h
theorem impl_yescape_eq (s : ByteArray) (hs : s.size ≤ 1048576) : impl_yescape.f s sepS = some (escB s) := by
  unfold impl_yescape.f
  rw [if_pos hs]; rfl
def partB (x : Pt) : ByteArray := (x.f0 ++ ⟨#[61]⟩) ++ escB x.f1
def outB (l : List Pt) : Nat → ByteArray
  | 0 => ⟨#[]⟩
  | i + 1 => (if 0 < i then outB l i ++ ⟨#[44]⟩ else outB l i) ++ partB (l.getD i z78)
def nameB (l : List Pt) : ByteArray := if goodDirName l = true then outB l l.length else ⟨#[]⟩
theorem good_sizes {l : List Pt} (h : goodDirName l = true) : l.length ≤ 8 ∧ ∀ x ∈ l, x.f0.size ≤ 30 ∧ x.f1.size ≤ 60 := by
  unfold goodDirName at h
  simp only [Bool.and_eq_true, decide_eq_true_eq, List.all_eq_true] at h
  refine ⟨h.1, fun x hx => ?_⟩
  have := h.2 x hx
  unfold goodPart goodName at this
  simp only [Bool.and_eq_true, decide_eq_true_eq] at this
  exact ⟨this.1.1.1.2, this.2.1.2⟩
theorem partB_size {x : Pt} (h : x.f0.size ≤ 30 ∧ x.f1.size ≤ 60) : (partB x).size ≤ 151 := by
  have := escB_size x.f1
  unfold partB
  rw [ByteArray.size_append, ByteArray.size_append]
  have e : (⟨#[61]⟩ : ByteArray).size = 1 := rfl
  omega
theorem outB_size {l : List Pt} (h : ∀ x ∈ l, x.f0.size ≤ 30 ∧ x.f1.size ≤ 60) : ∀ i, i ≤ l.length → (outB l i).size ≤ 152 * i
  | 0, _ => by unfold outB; exact Nat.le_refl _
  | i + 1, hi => by
    have ih := outB_size h i (by omega)
    have hp : (partB (l.getD i z78)).size ≤ 151 := partB_size (by rw [List.getD_eq_getElem?_getD, List.getElem?_eq_getElem (show i < l.length by omega)]; exact h _ (List.getElem_mem _))
    unfold outB
    rw [ByteArray.size_append]
    have e : (⟨#[44]⟩ : ByteArray).size = 1 := rfl
    split
    · rw [ByteArray.size_append]; omega
    · omega
theorem spec_NameText_l0 (l : List Pt) (hl : l.length ≤ 8) (hf : ∀ x ∈ l, x.f0.size ≤ 30 ∧ x.f1.size ≤ 60) : ∀ (d i : Nat), l.length = i + d → Ev (fun k => spec_NameText.l0 k (outB l i) l (l.length : Int) (i : Int)) (outB l l.length) := by
  intro d
  induction d with
  | zero =>
    intro i h
    obtain rfl : i = l.length := by omega
    refine Ev.succ ?_
    simp only [spec_NameText.l0]
    exact Ev.no (by omega) (Ev.now _)
  | succ d ih =>
    intro i h
    have hi : i < l.length := by omega
    have z := ih (i + 1) (by omega)
    have so := outB_size hf i (by omega)
    have e1 : (⟨#[44]⟩ : ByteArray).size = 1 := rfl
    have e2 : (⟨#[61]⟩ : ByteArray).size = 1 := rfl
    have hx := hf _ (List.getElem_mem hi)
    have eg : l.getD i z78 = l[i] := by rw [List.getD_eq_getElem?_getD, List.getElem?_eq_getElem hi]; rfl
    simp only [outB, eg] at z
    have se := escB_size l[i].f1
    refine Ev.succ ?_
    simp only [spec_NameText.l0]
    rw [rd_impl_Part l i hi, wrap_nat (i := i) (by omega)]
    refine Ev.yes (by omega) (Ev.yes (by omega) (Ev.yes (by omega) (Ev.ite (fun hp => ?_) fun hp => ?_)))
    · rw [if_pos (show 0 < i by omega)] at z
      refine Ev.yes (by omega) (Ev.yes (by omega) ((spec_l3Escaped_ev _ (by omega)).bind (Ev.yes (by rw [ByteArray.size_append]; omega) (Ev.yes (by simp only [ByteArray.size_append]; omega) z))))
    · rw [if_neg (show ¬ 0 < i by omega)] at z
      refine Ev.yes (by omega) ((spec_l3Escaped_ev _ (by omega)).bind (Ev.yes (by rw [ByteArray.size_append]; omega) (Ev.yes (by simp only [ByteArray.size_append]; omega) z)))
theorem spec_NameText_ev (l : List Pt) (hl : l.length ≤ 1048576) (hf : ∀ x ∈ l, fitPart x) : Ev (fun k => spec_NameText.f k l) (nameB l) := by
  unfold spec_NameText.f nameB
  refine (spec_GoodDirName_ev l hl hf).bind (Ev.ite (fun g => ?_) fun g => Ev.some (by rw [if_neg g]))
  rw [if_pos g]
  have q := good_sizes g
  exact spec_NameText_l0 l q.1 q.2 l.length 0 (by omega)
theorem join_snoc (xs : List (List UInt8)) (y sep : List UInt8) : Lib.join (xs ++ [y]) sep = if xs = [] then y else Lib.join xs sep ++ sep ++ y := by
  cases xs with
  | nil => rw [if_pos rfl, List.nil_append, Lib.join_one]
  | cons x r =>
    rw [if_neg (by simp), List.cons_append, Lib.join_cons, Lib.join_cons]
    unfold Lib.joinTail
    simp
theorem joinB_out (l : List Pt) : ∀ i, i ≤ l.length → Lib.join (((l.take i).map partB).map (·.data.toList)) [44] = (outB l i).data.toList
  | 0, _ => rfl
  | i + 1, h => by
    have ih := joinB_out l i (by omega)
    have eg : l.getD i z78 = l[i] := by rw [List.getD_eq_getElem?_getD, List.getElem?_eq_getElem (show i < l.length by omega)]; rfl
    rw [show outB l (i + 1) = (if 0 < i then outB l i ++ ⟨#[44]⟩ else outB l i) ++ partB l[i] from by simp only [outB, eg]]
    rw [List.take_succ_eq_append_getElem (by omega), List.map_append, List.map_append, List.map_cons, List.map_nil, List.map_cons, List.map_nil, join_snoc, ih]
    by_cases h0 : i = 0
    · subst h0
      rw [if_pos (by simp), if_neg (by omega), ByteArray.data_append, Array.toList_append]
      rfl
    · rw [if_neg (by simp; exact ⟨h0, fun q => by rw [q] at h; simp at h⟩), if_pos (by omega), ByteArray.data_append, ByteArray.data_append, Array.toList_append, Array.toList_append]
theorem joinB_all (l : List Pt) : joinB (l.map partB) ⟨#[44]⟩ = outB l l.length := by
  have h := joinB_out l l.length (Nat.le_refl _)
  rw [List.take_length] at h
  unfold joinB
  show (⟨(Lib.join ((l.map partB).map (·.data.toList)) [44]).toArray⟩ : ByteArray) = _
  rw [h]
theorem impl_NameText_l0 (l : List Pt) (hl : l.length ≤ 8) (hf : ∀ x ∈ l, x.f0.size ≤ 30 ∧ x.f1.size ≤ 60) : ∀ (d i : Nat), l.length = i + d → Ev (fun k => impl_NameText.l0 k ((l.take i).map partB) l (l.length : Int) (i : Int)) (outB l l.length) := by
  intro d
  induction d with
  | zero =>
    intro i h
    obtain rfl : i = l.length := by omega
    refine Ev.succ ?_
    simp only [impl_NameText.l0]
    have so := outB_size hf l.length (Nat.le_refl _)
    refine Ev.no (by omega) (Ev.call (a := outB l l.length) ?_ (Ev.now _))
    unfold strings_Join.f
    rw [List.take_length, joinB_all, if_pos (by rw [List.length_map]; omega), if_pos (by omega)]
  | succ d ih =>
    intro i h
    have hi : i < l.length := by omega
    have z := ih (i + 1) (by omega)
    have e2 : (⟨#[61]⟩ : ByteArray).size = 1 := rfl
    have hx := hf _ (List.getElem_mem hi)
    have se := escB_size l[i].f1
    rw [List.take_succ_eq_append_getElem hi, List.map_append, List.map_cons, List.map_nil] at z
    refine Ev.succ ?_
    simp only [impl_NameText.l0]
    rw [rd_impl_Part l i hi, wrap_nat (i := i) (by omega)]
    refine Ev.yes (by omega) (Ev.yes (by omega) (Ev.yes (by omega) (Ev.yes (by omega) (Ev.call (impl_yescape_eq _ (by omega)) (Ev.yes (by rw [ByteArray.size_append]; omega) (Ev.yes (by rw [List.length_map, List.length_take]; omega) z))))))
theorem impl_NameText_ev (l : List Pt) (hl : l.length ≤ 1048576) (hf : ∀ x ∈ l, fitPart x) : Ev (fun k => impl_NameText.f k l) (nameB l) := by
  unfold impl_NameText.f nameB
  refine (impl_GoodDirName_ev l hl hf).bind (Ev.ite (fun g => ?_) fun g => Ev.some (by rw [if_neg g]))
  rw [if_pos g]
  have q := good_sizes g
  exact impl_NameText_l0 l q.1 q.2 l.length 0 (by omega)
theorem FnExactNameText : laws_FnExactNameText.Pure := by
  intro l hl
  obtain ⟨_, hb, hx⟩ := hl
  apply Ev.rounds
  unfold laws_FnExactNameText.f
  obtain ⟨r, hr, _, hq⟩ := szPartS_to l 1048576 (by omega) (by omega) (by omega) (fun x h => hx x h)
  refine hr.bind (Ev.ite (fun _ => Ev.now _) fun hz => ?_)
  obtain ⟨hlen, hfit⟩ := hq hz
  have T := toPartS_ev l hlen
  have hlen' : (l.map cvPart).length ≤ 1048576 := by simpa using hlen
  have hf := fit_cvPart hfit
  exact T.bind ((spec_NameText_ev _ hlen' hf).bind (T.bind ((impl_NameText_ev _ hlen' hf).bind (Ev.yes rfl (T.bind ((eqPartS_self _ hlen').bind (Ev.yes rfl (Ev.now _))))))))

end Go.Proofs.Ytcgiegkcmofhhaa.Pure
