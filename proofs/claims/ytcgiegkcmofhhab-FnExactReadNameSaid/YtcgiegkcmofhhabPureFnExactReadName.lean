/- The program's ReadName answers what the reference's answers, for every text; it hands back memory of its own.
Conditions: none but the row's own. -/
import Derived.Test.YtcgiegkcmofhhabPFnExactReadNamex10
namespace Go.Proofs.Ytcgiegkcmofhhab.Pure
open Go.RowKit Go.Proofs.Ytcgiegkcmofhhab.PFnExactReadName Go.Proofs.YtcgiegkcmofhhabW.PrintWords Go.Proofs.YtcgiegkcmofhhabW.PrintLast
set_option linter.unusedVariables false
set_option linter.unusedSimpArgs false

/-! ### from some number of rounds on -/
theorem Ev.yes {α : Type} {c : Prop} {inst : Decidable c} {A B : Nat → Option α} {r : α} (h : c) (k : Ev A r) : Ev (fun n => @ite _ c inst (A n) (B n)) r :=
  k.congr fun n => if_pos h
theorem Ev.no {α : Type} {c : Prop} {inst : Decidable c} {A B : Nat → Option α} {r : α} (h : ¬ c) (k : Ev B r) : Ev (fun n => @ite _ c inst (A n) (B n)) r :=
  k.congr fun n => if_neg h
theorem Ev.ite {α : Type} {c : Prop} {inst : Decidable c} {A B : Nat → Option α} {r : α} (h : c → Ev A r) (k : ¬ c → Ev B r) : Ev (fun n => @ite _ c inst (A n) (B n)) r := by
  by_cases e : c
  · exact Ev.yes e (h e)
  · exact Ev.no e (k e)
theorem Ev.some {α : Type} {a r : α} (h : a = r) : Ev (fun _ => some a) r := h ▸ Ev.now a
/-- A callee without rounds. -/
theorem Ev.call {α β : Type} {g : Option α} {f : Nat → α → Option β} {a : α} {r : β} (h : g = Option.some a) (k : Ev (fun n => f n a) r) : Ev (fun n => g.bind (f n)) r := by
  refine k.congr fun n => ?_
  rw [h]; rfl
theorem Ev.tail {α : Type} {g : Nat → Option α} {r : α} (h : Ev g r) : Ev (fun n => (g n).bind fun t => Option.some t) r := h.bind (Ev.now r)
theorem Ev.succ {α : Type} {g : Nat → Option α} {r : α} (h : Ev (fun k => g (k + 1)) r) : Ev g r := Ev.step (fun _ => rfl) h
theorem wrap_nat {i : Nat} (h : i < 9000000000000000000) : wrap64 ((i : Int) + 1) = ((i + 1 : Nat) : Int) := by unfold wrap64; omega
theorem wrap_id {x : Int} (h0 : -9223372036854775808 ≤ x) (h1 : x ≤ 9223372036854775807) : wrap64 x = x := by unfold wrap64; omega
theorem bt_nat (s : ByteArray) (i : Nat) (h : i < s.size) : bt s (i : Int) = (bytesOf s)[i]'(by rw [bytesOf_length]; exact h) := by
  have := rd_bytesOf s (i : Int)
  rw [← this]; unfold rd; rw [Int.toNat_natCast, List.getD_eq_getElem?_getD, List.getElem?_eq_getElem (by rw [bytesOf_length]; exact h)]; rfl
theorem drop_bytes (s : ByteArray) (i : Nat) (h : i < s.size) : (bytesOf s).drop i = bt s (i : Int) :: (bytesOf s).drop (i + 1) := by
  rw [bt_nat s i h]; exact List.drop_eq_getElem_cons (by rw [bytesOf_length]; exact h)
theorem bytes_range (s : ByteArray) : ∀ b ∈ bytesOf s, 0 ≤ b ∧ b ≤ 255 := by
  intro b hb
  unfold bytesOf at hb
  obtain ⟨x, _, rfl⟩ := List.mem_map.1 hb
  have := x.toNat_lt
  omega
/-- A loop over a string that asks each byte. -/
theorem loop_all {l : Nat → Int → Option Bool} {p : Int → Bool} {s : ByteArray}
    (yes : ∀ i : Nat, i < s.size → p (bt s i) = true → ∀ r, Ev (fun k => l k ((i + 1 : Nat) : Int)) r → Ev (fun k => l k (i : Int)) r)
    (no : ∀ i : Nat, i < s.size → p (bt s i) = false → Ev (fun k => l k (i : Int)) false)
    (done : Ev (fun k => l k (s.size : Int)) true) :
    ∀ (d i : Nat), s.size = i + d → Ev (fun k => l k (i : Int)) (((bytesOf s).drop i).all p) := by
  intro d
  induction d with
  | zero =>
    intro i h
    obtain rfl : i = s.size := by omega
    rw [List.drop_eq_nil_of_le (by rw [bytesOf_length]; exact Nat.le_refl _)]
    exact done
  | succ d ih =>
    intro i h
    rw [drop_bytes s i (by omega), List.all_cons]
    cases hp : p (bt s i) with
    | true => rw [Bool.true_and]; exact yes i (by omega) hp _ (ih (i + 1) (by omega))
    | false => rw [Bool.false_and]; exact no i (by omega) hp
/-! ### good names -/
def pDigit (a : Int) : Bool := decide (48 ≤ a ∧ a ≤ 57)
def pLetter (a : Int) : Bool := decide (97 ≤ a ∧ a ≤ 122 ∨ 65 ≤ a ∧ a ≤ 90)
def pWord (a : Int) : Bool := pLetter a || pDigit a || decide (a = 95)
def goodName (s : ByteArray) : Bool := decide (1 ≤ s.size ∧ s.size ≤ 30) && !pDigit (bt s 0) && (bytesOf s).all pWord
theorem spec_l1Digit_eq (a : Int) : spec_l1Digit.f a = some (pDigit a) := by
  unfold spec_l1Digit.f pDigit; split <;> congr 1 <;> simp <;> omega
theorem spec_l1Letter_eq (a : Int) : spec_l1Letter.f a = some (pLetter a) := by
  unfold spec_l1Letter.f pLetter; repeat' split
  all_goals (congr 1; rw [eq_comm]; first | (apply decide_eq_true; omega) | (apply decide_eq_false; omega) | (apply decide_eq_decide.2; omega))
theorem impl_ydigit_eq (a : Int) : impl_ydigit.f a = some (pDigit a) := by
  unfold impl_ydigit.f pDigit; split <;> congr 1 <;> simp <;> omega
theorem impl_yletter_eq (a : Int) : impl_yletter.f a = some (pLetter a) := by
  unfold impl_yletter.f pLetter; repeat' split
  all_goals (congr 1; rw [eq_comm]; first | (apply decide_eq_true; omega) | (apply decide_eq_false; omega) | (apply decide_eq_decide.2; omega))
theorem impl_ywordByte_eq (a : Int) : impl_ywordByte.f a = some (pWord a) := by
  unfold impl_ywordByte.f pWord
  rw [impl_yletter_eq, Option.bind_some, impl_ydigit_eq, Option.bind_some]
  cases pLetter a <;> cases pDigit a <;> simp [BEq.beq]
theorem size_bytes_nil (s : ByteArray) : s.toList = ([] : List UInt8) ↔ s.size = 0 := by
  have h : s.toList = s.data.toList := ByteArray.toList_eq s
  rw [h]
  constructor
  · intro h; have := congrArg List.length h; simpa using this
  · intro h; apply List.eq_nil_of_length_eq_zero; simpa using h
theorem spec_GoodName_l0 (s : ByteArray) (hs : s.size ≤ 1048576) (i : Nat) (hi : i ≤ s.size) : Ev (fun k => spec_GoodName.l0 k s (i : Int)) (((bytesOf s).drop i).all pWord) := by
  refine loop_all (l := fun k i => spec_GoodName.l0 k s i) ?_ ?_ ?_ (s.size - i) i (by omega)
  · intro i h hp r hr
    refine Ev.step (fun _ => rfl) (Ev.yes (by omega) (Ev.yes (by omega) (Ev.call (spec_l1Letter_eq _) ?_)))
    rw [← wrap_nat (by omega)] at hr
    refine Ev.ite (fun _ => hr) fun h1 => Ev.call (spec_l1Digit_eq _) (Ev.ite (fun _ => hr) fun h2 => Ev.ite (fun _ => hr) fun h3 => ?_)
    exfalso
    unfold pWord at hp
    simp [h1, h2, h3] at hp
  · intro i h hp
    refine Ev.step (fun _ => rfl) (Ev.yes (by omega) (Ev.yes (by omega) (Ev.call (spec_l1Letter_eq _) ?_)))
    unfold pWord at hp
    simp only [Bool.or_eq_false_iff, decide_eq_false_iff_not] at hp
    refine Ev.no (by simp [hp.1.1]) (Ev.call (spec_l1Digit_eq _) (Ev.no (by simp [hp.1.2]) (Ev.no hp.2 (Ev.now _))))
  · exact Ev.step (fun _ => rfl) (Ev.no (by omega) (Ev.now _))
theorem spec_GoodName_ev (s : ByteArray) (hs : s.size ≤ 1048576) : Ev (fun k => spec_GoodName.f k s) (goodName s) := by
  unfold spec_GoodName.f goodName
  have H : Ev (fun k => spec_GoodName.l0 k s 0) ((bytesOf s).all pWord) := spec_GoodName_l0 s hs 0 (by omega)
  have hf : ∀ b : Bool, Ev (fun k => spec_GoodName.j0 k s b) (!b && (bytesOf s).all pWord) := by
    intro b
    cases b with
    | true => apply Ev.succ; simp only [spec_GoodName.j0, if_true, Bool.not_true, Bool.false_and]; exact Ev.now _
    | false => apply Ev.succ; simp only [spec_GoodName.j0, Bool.false_eq_true, if_false, Bool.not_false, Bool.true_and]; exact H
  refine Ev.ite (fun h => ?_) fun h => Ev.ite (fun h' => ?_) fun h' => Ev.yes (by omega) (Ev.call (spec_l1Digit_eq _) ?_)
  · rw [decide_eq_false (by omega)]; exact hf true
  · rw [decide_eq_false (by omega)]; exact hf true
  · rw [decide_eq_true (by omega), Bool.true_and]; exact hf _
theorem impl_GoodName_l0 (s : ByteArray) (hs : s.size ≤ 1048576) (i : Nat) (hi : i ≤ s.size) : Ev (fun k => impl_GoodName.l0 k s (s.size : Int) (i : Int)) (((bytesOf s).drop i).all pWord) := by
  refine loop_all (l := fun k i => impl_GoodName.l0 k s (s.size : Int) i) ?_ ?_ ?_ (s.size - i) i (by omega)
  · intro i h hp r hr
    rw [← wrap_nat (by omega)] at hr
    exact Ev.step (fun _ => rfl) (Ev.yes (by omega) (Ev.yes (by omega) (Ev.yes (by omega) (Ev.call (impl_ywordByte_eq _) (Ev.yes hp hr)))))
  · intro i h hp
    exact Ev.step (fun _ => rfl) (Ev.yes (by omega) (Ev.yes (by omega) (Ev.yes (by omega) (Ev.call (impl_ywordByte_eq _) (Ev.no (by simp [hp]) (Ev.now _))))))
  · exact Ev.step (fun _ => rfl) (Ev.no (by omega) (Ev.now _))
theorem impl_GoodName_ev (s : ByteArray) (hs : s.size ≤ 1048576) : Ev (fun k => impl_GoodName.f k s) (goodName s) := by
  unfold impl_GoodName.f goodName
  have H : Ev (fun k => impl_GoodName.l0 k s (s.size : Int) 0) ((bytesOf s).all pWord) := impl_GoodName_l0 s hs 0 (by omega)
  have hf : ∀ b : Bool, Ev (fun k => impl_GoodName.j0 k s b) (!b && (bytesOf s).all pWord) := by
    intro b
    cases b with
    | true => apply Ev.succ; simp only [impl_GoodName.j0, if_true, Bool.not_true, Bool.false_and]; exact Ev.now _
    | false => apply Ev.succ; simp only [impl_GoodName.j0, Bool.false_eq_true, if_false, Bool.not_false, Bool.true_and]; exact H
  refine Ev.ite (fun h => ?_) fun h => Ev.ite (fun h' => ?_) fun h' => ?_
  · rw [size_bytes_nil] at h; rw [decide_eq_false (by omega)]; exact hf true
  · rw [decide_eq_false (by omega)]; exact hf true
  · rw [size_bytes_nil] at h; rw [decide_eq_true (by omega), Bool.true_and]; exact Ev.yes (by omega) (Ev.call (impl_ydigit_eq _) (hf _))
/-! ### printed texts, empty texts -/
def emptyB (s : ByteArray) : Bool := decide (s.size = 0)
def pPrinted (b : Int) : Bool := decide (32 ≤ b ∧ b ≤ 126)
def printed (s : ByteArray) : Bool := (bytesOf s).all pPrinted
theorem nil_iff (s : ByteArray) : s.toList = ([] : List UInt8) ↔ emptyB s = true := by rw [size_bytes_nil]; simp [emptyB]
theorem nil_beq (s : ByteArray) : (s.toList == ([] : List UInt8)) = emptyB s := by
  rw [Bool.eq_iff_iff, beq_iff_eq, nil_iff]
theorem nil_bne (s : ByteArray) : (s.toList != ([] : List UInt8)) = !emptyB s := by
  rw [bne, nil_beq]
theorem spec_l1Printed_ev (s : ByteArray) (hs : s.size ≤ 1048576) : Ev (fun k => spec_l1Printed.f k s) (printed s) := by
  unfold spec_l1Printed.f printed
  refine loop_all (l := fun k i => spec_l1Printed.l0 k s i) (p := pPrinted) ?_ ?_ ?_ s.size 0 (by omega)
  · intro i h hp r hr
    have hp := of_decide_eq_true hp
    refine Ev.succ ?_
    simp only [spec_l1Printed.l0]
    rw [← wrap_nat (by omega)] at hr
    exact Ev.yes (by omega) (Ev.yes (by omega) (Ev.no (by omega) (Ev.no (by omega) hr)))
  · intro i h hp
    have hp := of_decide_eq_false hp
    refine Ev.succ ?_
    simp only [spec_l1Printed.l0]
    exact Ev.yes (by omega) (Ev.yes (by omega) (Ev.ite (fun _ => Ev.now _) fun h1 => Ev.ite (fun _ => Ev.now _) fun h2 => by omega))
  · refine Ev.succ ?_
    simp only [spec_l1Printed.l0]
    exact Ev.no (by omega) (Ev.now _)
theorem impl_yprinted_ev (s : ByteArray) (lo hi : Nat) (hs : s.size ≤ 1048576) : Ev (fun k => impl_yprinted.f k s (lo : Int) (hi : Int)) (decide (lo ≤ s.size ∧ s.size ≤ hi) && printed s) := by
  have hf : ∀ b : Bool, b = decide (¬ (lo ≤ s.size ∧ s.size ≤ hi)) → Ev (fun k => impl_yprinted.j0 k s b) (decide (lo ≤ s.size ∧ s.size ≤ hi) && printed s) := by
    intro b hb
    refine Ev.succ ?_
    simp only [impl_yprinted.j0]
    refine Ev.ite (fun h => ?_) fun h => ?_
    · rw [hb] at h
      rw [decide_eq_false (of_decide_eq_true h), Bool.false_and]; exact Ev.now _
    · have h' : lo ≤ s.size ∧ s.size ≤ hi := Classical.byContradiction fun z => h (by rw [hb]; exact decide_eq_true z)
      rw [decide_eq_true h', Bool.true_and]
      unfold printed
      refine loop_all (l := fun k i => impl_yprinted.l0 k s (s.size : Int) i) (p := pPrinted) ?_ ?_ ?_ s.size 0 (by omega)
      · intro i h hp r hr
        have hp := of_decide_eq_true hp
        refine Ev.succ ?_
        simp only [impl_yprinted.l0]
        rw [← wrap_nat (by omega)] at hr
        exact Ev.yes (by omega) (Ev.yes (by omega) (Ev.yes (by omega) (Ev.no (by omega) (Ev.no (by omega) hr))))
      · intro i h hp
        have hp := of_decide_eq_false hp
        refine Ev.succ ?_
        simp only [impl_yprinted.l0]
        exact Ev.yes (by omega) (Ev.yes (by omega) (Ev.yes (by omega) (Ev.ite (fun _ => Ev.now _) fun h1 => Ev.ite (fun _ => Ev.now _) fun h2 => by omega)))
      · refine Ev.succ ?_
        simp only [impl_yprinted.l0]
        exact Ev.no (by omega) (Ev.now _)
  unfold impl_yprinted.f
  refine Ev.ite (fun h => hf _ ?_) fun h => hf _ ?_
  · rw [decide_eq_true (by omega)]
  · rw [decide_eq_decide]; omega
/-! ### lists of numbers, and what the law's own functions do with bytes -/
theorem rd_nat (l : List Int) (i : Nat) (h : i < l.length) : rd l (i : Int) = l[i] := by
  unfold rd; rw [Int.toNat_natCast, List.getD_eq_getElem?_getD, List.getElem?_eq_getElem h]; rfl
theorem set_step {β : Type} (xs : List β) (z : β) (i : Nat) (h : i < xs.length) :
    (xs.take i ++ List.replicate (xs.length - i) z).set i xs[i] = xs.take (i + 1) ++ List.replicate (xs.length - (i + 1)) z := by
  obtain ⟨d, hd⟩ : ∃ d, xs.length - i = d + 1 := ⟨xs.length - i - 1, by omega⟩
  rw [hd, show xs.length - (i + 1) = d by omega, List.replicate_succ, List.set_append_right _ _ (by simp; omega)]
  rw [show i - (xs.take i).length = 0 by simp; omega, List.set_cons_zero, List.take_succ_eq_append_getElem h, List.append_assoc]; rfl
theorem fill_len {β : Type} (xs : List β) (z : β) (i : Nat) (h : i ≤ xs.length) : (xs.take i ++ List.replicate (xs.length - i) z).length = xs.length := by simp; omega
/-! ### what is left of the law's measure -/
def szA (m a : Int) : Int := if m - a < 0 then -1 else m - a
theorem szA_neg {m a : Int} : ¬ szA m a < 0 ↔ a ≤ m := by unfold szA; split <;> omega
theorem szA_ok {m a : Int} (h : ¬ szA m a < 0) : szA m a = m - a ∧ a ≤ m := by
  unfold szA at *
  by_cases e : m - a < 0
  · rw [if_pos e] at h; omega
  · rw [if_neg e]; omega
/-! ### the loops of the law's own functions, whatever the elements -/
theorem self_loop {L : Nat → Int → Option Bool} {n : Nat} (step : ∀ i : Nat, i < n → Ev (fun k => L k ((i + 1 : Nat) : Int)) true → Ev (fun k => L k (i : Int)) true) (done : Ev (fun k => L k (n : Int)) true) :
    ∀ (d i : Nat), n = i + d → Ev (fun k => L k (i : Int)) true := by
  intro d
  induction d with
  | zero => intro i h; obtain rfl : n = i := by omega
            exact done
  | succ d ih => intro i h; exact step i (by omega) (ih (i + 1) (by omega))
theorem to_loop {α β : Type} {L : Nat → List β → Int → Option (List β)} {l : List α} {g : α → β} {z : β}
    (step : ∀ (i : Nat) (h : i < l.length) (o : List β), o.length = l.length → ∀ r, Ev (fun k => L k (o.set i (g l[i])) ((i + 1 : Nat) : Int)) r → Ev (fun k => L k o (i : Int)) r)
    (done : ∀ o : List β, Ev (fun k => L k o (l.length : Int)) o) :
    ∀ (d i : Nat), l.length = i + d → Ev (fun k => L k ((l.map g).take i ++ List.replicate (l.length - i) z) (i : Int)) (l.map g) := by
  intro d
  induction d with
  | zero =>
    intro i h
    obtain rfl : i = l.length := by omega
    rw [Nat.sub_self, List.replicate_zero, List.append_nil, List.take_of_length_le (by simp)]
    exact done _
  | succ d ih =>
    intro i h
    refine step i (by omega) _ (by simp; omega) _ ?_
    have e := set_step (l.map g) z i (by simp; omega)
    simp only [List.length_map, List.getElem_map] at e
    rw [e]
    exact ih (i + 1) (by omega)
/-- What a measure tells: what is left, and that all it measured fits. -/
def SzTo (g : Nat → Option Int) (m : Int) (Q : Prop) : Prop := ∃ r, Ev g r ∧ r ≤ m ∧ (¬ r < 0 → Q)
theorem sz_loop {α : Type} {L : Nat → Int → Int → Option Int} {l : List α} {Q : α → Prop}
    (step : ∀ (i : Nat) (h : i < l.length) (m : Int), 0 ≤ m → m ≤ 1048576 → ∃ r, r ≤ m ∧ (¬ r < 0 → Q l[i]) ∧ (r < 0 → Ev (fun k => L k m (i : Int)) (-1)) ∧ (¬ r < 0 → ∀ s, Ev (fun k => L k r ((i + 1 : Nat) : Int)) s → Ev (fun k => L k m (i : Int)) s))
    (done : ∀ m : Int, Ev (fun k => L k m (l.length : Int)) m) :
    ∀ (d i : Nat) (m : Int), l.length = i + d → 0 ≤ m → m ≤ 1048576 → SzTo (fun k => L k m (i : Int)) m (∀ x ∈ l.drop i, Q x) := by
  intro d
  induction d with
  | zero =>
    intro i m h h0 h1
    obtain rfl : i = l.length := by omega
    exact ⟨m, done m, Int.le_refl _, fun _ x hx => by rw [List.drop_length] at hx; simp at hx⟩
  | succ d ih =>
    intro i m h h0 h1
    obtain ⟨r, hr, hq, hneg, hpos⟩ := step i (by omega) m h0 h1
    by_cases hz : r < 0
    · exact ⟨-1, hneg hz, by omega, fun h => absurd (by omega) h⟩
    · obtain ⟨s, hs, hle, hall⟩ := ih (i + 1) r (by omega) (by omega) (by omega)
      refine ⟨s, hpos hz s hs, by omega, fun hn x hx => ?_⟩
      rw [List.drop_eq_getElem_cons (show i < l.length by omega)] at hx
      rcases List.mem_cons.1 hx with rfl | hx
      · exact hq hz
      · exact hall hn x hx
/-! ### the first that is so -/
def findI {α : Type} (p : α → Bool) : List α → Int → Int
  | [], _ => -1
  | x :: l, i => if p x = true then i else findI p l (i + 1)
theorem findI_any {α : Type} (p : α → Bool) : ∀ (l : List α) (i : Int), 0 ≤ i → decide (findI p l i ≥ 0) = l.any p
  | [], i, _ => rfl
  | x :: l, i, h => by
    unfold findI
    rw [List.any_cons]
    cases hp : p x with
    | true => rw [if_pos rfl, Bool.true_or]; exact decide_eq_true h
    | false => rw [if_neg (by simp), Bool.false_or]; exact findI_any p l (i + 1) (by omega)
theorem find_loop {α : Type} {L : Nat → Int → Option Int} {l : List α} {p : α → Bool}
    (step : ∀ (i : Nat) (h : i < l.length), (p l[i] = true → Ev (fun k => L k (i : Int)) (i : Int)) ∧ (p l[i] = false → ∀ r, Ev (fun k => L k ((i + 1 : Nat) : Int)) r → Ev (fun k => L k (i : Int)) r))
    (done : Ev (fun k => L k (l.length : Int)) (-1)) : ∀ (d i : Nat), l.length = i + d → Ev (fun k => L k (i : Int)) (findI p (l.drop i) (i : Int)) := by
  intro d
  induction d with
  | zero =>
    intro i h
    obtain rfl : i = l.length := by omega
    rw [List.drop_length]; exact done
  | succ d ih =>
    intro i h
    rw [List.drop_eq_getElem_cons (show i < l.length by omega)]
    unfold findI
    obtain ⟨h1, h2⟩ := step i (by omega)
    cases hp : p l[i] with
    | true => rw [if_pos rfl]; exact h1 hp
    | false => rw [if_neg (by simp)]; exact h2 hp _ (ih (i + 1) (by omega))
/-- A loop over the places of a list that stops at the first that isn't so. -/
theorem all_loop {α : Type} {L : Nat → Int → Option Bool} {l : List α} {p : α → Bool} {z : Bool}
    (step : ∀ (i : Nat) (h : i < l.length), (p l[i] = false → Ev (fun k => L k (i : Int)) false) ∧ (p l[i] = true → ∀ r, Ev (fun k => L k ((i + 1 : Nat) : Int)) r → Ev (fun k => L k (i : Int)) r))
    (done : Ev (fun k => L k (l.length : Int)) z) : ∀ (d i : Nat), l.length = i + d → Ev (fun k => L k (i : Int)) ((l.drop i).all p && z) := by
  intro d
  induction d with
  | zero =>
    intro i h
    obtain rfl : i = l.length := by omega
    rw [List.drop_length, List.all_nil, Bool.true_and]; exact done
  | succ d ih =>
    intro i h
    rw [List.drop_eq_getElem_cons (show i < l.length by omega), List.all_cons]
    obtain ⟨h1, h2⟩ := step i (by omega)
    cases hp : p l[i] with
    | true => rw [Bool.true_and]; exact h2 hp _ (ih (i + 1) (by omega))
    | false => rw [Bool.false_and, Bool.false_and]; exact h1 hp
/-! ### names of entries: the core -/
theorem rd_impl_Part (l : List S93) (i : Nat) (h : i < l.length) : rd_T93 l (i : Int) = l[i] := by
  unfold rd_T93; rw [Int.toNat_natCast, List.getD_eq_getElem?_getD, List.getElem?_eq_getElem h]; rfl
def goodPart (n : Nat) (x : S93) : Bool := goodName x.f0 && (decide (1 ≤ x.f1.size ∧ x.f1.size ≤ n) && printed x.f1)
def goodDirName (l : List S93) : Bool := decide (l.length ≤ 8) && l.all (goodPart 60)
def fitPart (x : S93) : Prop := x.f0.size ≤ 1048576 ∧ x.f1.size ≤ 1048576
theorem spec_GoodDirName_ev (l : List S93) (hl : l.length ≤ 1048576) (hf : ∀ x ∈ l, fitPart x) : Ev (fun k => spec_GoodDirName.f k l) (goodDirName l) := by
  unfold spec_GoodDirName.f goodDirName
  rw [Bool.and_comm]
  refine all_loop (L := fun k i => spec_GoodDirName.l0 k l l (l.length : Int) i) (p := goodPart 60) (z := decide (l.length ≤ 8)) (fun i h => ?_) ?_ l.length 0 (by omega)
  · have fx := hf _ (List.getElem_mem h)
    constructor
    · intro hp
      refine Ev.succ ?_
      simp only [spec_GoodDirName.l0]
      refine Ev.yes (by omega) (Ev.yes (by omega) (Ev.yes (by omega) ?_))
      rw [rd_impl_Part l i h]
      refine (spec_GoodName_ev _ fx.1).bind (Ev.ite (fun g => Ev.ite (fun _ => Ev.now _) fun h1 => Ev.ite (fun _ => Ev.now _) fun h2 => ?_) fun _ => Ev.now _)
      refine (spec_l1Printed_ev _ fx.2).bind (Ev.ite (fun g' => ?_) fun _ => Ev.now _)
      exfalso
      unfold goodPart at hp
      rw [g, g', decide_eq_true (by omega)] at hp
      exact absurd hp (by simp)
    · intro hp r hr
      unfold goodPart at hp
      simp only [Bool.and_eq_true, decide_eq_true_eq] at hp
      refine Ev.succ ?_
      simp only [spec_GoodDirName.l0]
      refine Ev.yes (by omega) (Ev.yes (by omega) (Ev.yes (by omega) ?_))
      rw [rd_impl_Part l i h]
      rw [← wrap_nat (by omega)] at hr
      exact (spec_GoodName_ev _ fx.1).bind (Ev.yes hp.1 (Ev.no (by omega) (Ev.no (by omega) ((spec_l1Printed_ev _ fx.2).bind (Ev.yes hp.2.2 hr)))))
  · refine Ev.succ ?_
    simp only [spec_GoodDirName.l0]
    refine Ev.no (by omega) (Ev.some ?_)
    rw [decide_eq_decide]; omega
theorem impl_ygoodPart_ev (x : S93) (n : Nat) (hx : fitPart x) : Ev (fun k => impl_ygoodPart.f k x.f0 x.f1 (n : Int)) (goodPart n x) := by
  unfold impl_ygoodPart.f goodPart
  refine (impl_GoodName_ev _ hx.1).bind (Ev.ite (fun g => ?_) fun g => Ev.some (by rw [Bool.eq_false_iff.2 g]; rfl))
  rw [g, Bool.true_and]
  exact Ev.tail (impl_yprinted_ev x.f1 1 n hx.2)
theorem impl_GoodDirName_ev (l : List S93) (hl : l.length ≤ 1048576) (hf : ∀ x ∈ l, fitPart x) : Ev (fun k => impl_GoodDirName.f k l) (goodDirName l) := by
  unfold impl_GoodDirName.f goodDirName
  refine Ev.ite (fun h => ?_) fun h => Ev.some ?_
  · rw [decide_eq_true (by omega), Bool.true_and]
    have e : l.all (goodPart 60) = !(l.any fun x => !goodPart 60 x) := by
      rw [List.all_eq_not_any_not]
    rw [e]
    refine Ev.bind (a := l.any fun x => !goodPart 60 x) ?_ (Ev.now _)
    unfold slices_ContainsFunc_impl_GoodDirName_1.f
    rw [← findI_any _ l 0 (by omega)]
    refine Ev.bind (a := findI (fun x => !goodPart 60 x) l 0) ?_ (Ev.now _)
    unfold slices_IndexFunc_impl_GoodDirName_1.f
    refine find_loop (L := fun k i => slices_IndexFunc_impl_GoodDirName_1.l0 k l (l.length : Int) i) (p := fun x => !goodPart 60 x) (fun i h => ?_) ?_ l.length 0 (by omega)
    · have fx := hf _ (List.getElem_mem h)
      have C : Ev (fun k => impl_GoodDirName_1.f k l[i].f0 l[i].f1) (!goodPart 60 l[i]) := by
        unfold impl_GoodDirName_1.f
        exact (impl_ygoodPart_ev l[i] 60 fx).bind (Ev.now _)
      constructor
      · intro hp
        refine Ev.succ ?_
        simp only [slices_IndexFunc_impl_GoodDirName_1.l0]
        rw [rd_impl_Part l i h]
        exact Ev.yes (by omega) (Ev.yes (by omega) (Ev.yes (by omega) (C.bind (Ev.yes hp (Ev.now _)))))
      · intro hp r hr
        refine Ev.succ ?_
        simp only [slices_IndexFunc_impl_GoodDirName_1.l0]
        rw [rd_impl_Part l i h]
        rw [← wrap_nat (by omega)] at hr
        exact Ev.yes (by omega) (Ev.yes (by omega) (Ev.yes (by omega) (C.bind (Ev.no (by rw [hp]; decide) hr))))
    · refine Ev.succ ?_
      simp only [slices_IndexFunc_impl_GoodDirName_1.l0]
      exact Ev.no (by omega) (Ev.now _)
  · rw [decide_eq_false (by omega)]; rfl
/-! ### names as texts -/
abbrev Pt : Type := S93
abbrev sepS : ByteArray := ⟨#[44, 92]⟩
def escB (s : ByteArray) : ByteArray := ⟨(escL sepS s.data.toList).toArray⟩
def escC (c : Int) : List Int := if c = 44 ∨ c = 92 then [92, c] else [c]
def escI (l : List Int) : List Int := l.flatMap escC
theorem idx_iff (c : UInt8) : Lib.indexByte [44, 92] c ≥ 0 ↔ (c = 44 ∨ c = 92) := by
  unfold Lib.indexByte Lib.indexByte Lib.indexByte
  by_cases h1 : c = 44
  · subst h1; decide
  · by_cases h2 : c = 92
    · subst h2; decide
    · have e1 : ((44 : UInt8) == c) = false := beq_eq_false_iff_ne.2 fun h => h1 h.symm
      have e2 : ((92 : UInt8) == c) = false := beq_eq_false_iff_ne.2 fun h => h2 h.symm
      rw [e1, e2]
      simp [h1, h2]
theorem u8_val (c : UInt8) (n : Nat) (hn : n < 256) : ((c.toNat : Nat) : Int) = (n : Int) ↔ c = UInt8.ofNat n := by
  constructor
  · intro h
    have h : c.toNat = n := by omega
    rw [← h]; simp
  · rintro rfl
    simp [Nat.mod_eq_of_lt hn]
theorem esc_nums : ∀ l : List UInt8, (escI (l.map fun b => (b.toNat : Int))).map (fun n => UInt8.ofNat n.toNat) = escL sepS l
  | [] => rfl
  | c :: l => by
    have ih := esc_nums l
    unfold escI escL at *
    rw [List.map_cons, List.flatMap_cons, List.map_append, ih, List.flatMap_cons]
    congr 1
    have i1 := u8_val c 44 (by omega)
    have i2 := u8_val c 92 (by omega)
    have hi := idx_iff c
    unfold escC
    by_cases h : c = 44 ∨ c = 92
    · rw [if_pos (hi.2 h), if_pos (by rcases h with h | h; exact Or.inl (i1.2 h); exact Or.inr (i2.2 h))]
      simp
    · rw [if_neg (fun q => h (hi.1 q)), if_neg (fun q => h (by rcases q with q | q; exact Or.inl (i1.1 q); exact Or.inr (i2.1 q)))]
      simp
theorem escB_nums (s : ByteArray) : strOfNums (escI (bytesOf s)) = escB s := by
  unfold strOfNums escB bytesOf
  rw [esc_nums]
theorem escI_len : ∀ l : List Int, (escI l).length ≤ 2 * l.length
  | [] => Nat.le_refl _
  | c :: l => by
    have h := escI_len l
    unfold escI at *
    rw [List.flatMap_cons, List.length_append, List.length_cons]
    have h2 : (escC c).length ≤ 2 := by unfold escC; split <;> simp
    omega
theorem lenIf {p : Prop} [Decidable p] (y : List Int) : (if p then y ++ [92] else y).length ≤ y.length + 1 := by split <;> simp
theorem escI_take (s : ByteArray) (i : Nat) (h : i < s.size) : escI ((bytesOf s).take (i + 1)) = escI ((bytesOf s).take i) ++ escC (bt s (i : Int)) := by
  rw [List.take_succ_eq_append_getElem (by rw [bytesOf_length]; exact h), ← bt_nat s i h]
  unfold escI
  rw [List.flatMap_append]
  simp
theorem spec_l3Escaped_l0 (s : ByteArray) (hs : s.size ≤ 1048576) : ∀ (d i : Nat), s.size = i + d → Ev (fun k => spec_l3Escaped.l0 k s sepS (escI ((bytesOf s).take i)) (i : Int)) (escB s) := by
  intro d
  induction d with
  | zero =>
    intro i h
    refine Ev.succ ?_
    simp only [spec_l3Escaped.l0]
    refine Ev.no (by omega) (Ev.some ?_)
    rw [List.take_of_length_le (by rw [bytesOf_length]; omega), escB_nums]
  | succ d ih =>
    intro i h
    have z := ih (i + 1) (by omega)
    rw [escI_take s i (by omega)] at z
    have hl : (escI ((bytesOf s).take i)).length ≤ 2 * i := Nat.le_trans (escI_len _) (by rw [List.length_take]; omega)
    generalize escI ((bytesOf s).take i) = x at z hl
    generalize hc : bt s (i : Int) = c at z
    have b0 : bt sepS 0 = 44 := rfl
    have b1 : bt sepS 1 = 92 := rfl
    have S2 : ∀ y : List Int, y.length ≤ 2 * i + 2 → Ev (fun k => spec_l3Escaped.l0 k s sepS (y ++ [c]) ((i + 1 : Nat) : Int)) (escB s) → Ev (fun k => spec_l3Escaped.l1 k s sepS y (i : Int) 2) (escB s) := by
      intro y hy hr
      refine Ev.succ ?_
      simp only [spec_l3Escaped.l1]
      rw [hc, wrap_nat (i := i) (by omega)]
      exact Ev.no (by decide) (Ev.yes (by omega) (Ev.yes (by omega) (Ev.yes (by omega) hr)))
    have S1 : ∀ y : List Int, y.length ≤ 2 * i + 1 → Ev (fun k => spec_l3Escaped.l1 k s sepS (if c = 92 then y ++ [92] else y) (i : Int) 2) (escB s) → Ev (fun k => spec_l3Escaped.l1 k s sepS y (i : Int) 1) (escB s) := by
      intro y hy hr
      refine Ev.succ ?_
      simp only [spec_l3Escaped.l1]
      rw [hc, b1, show wrap64 (1 + 1) = 2 from by unfold wrap64; omega]
      refine Ev.yes (by decide) (Ev.yes (by omega) (Ev.yes (by omega) (Ev.yes (by omega) (Ev.ite (fun e => Ev.yes (by omega) ?_) fun e => ?_))))
      · rw [if_pos e] at hr; exact hr
      · rw [if_neg e] at hr; exact hr
    have S0 : ∀ y : List Int, y.length ≤ 2 * i → Ev (fun k => spec_l3Escaped.l1 k s sepS (if c = 44 then y ++ [92] else y) (i : Int) 1) (escB s) → Ev (fun k => spec_l3Escaped.l1 k s sepS y (i : Int) 0) (escB s) := by
      intro y hy hr
      refine Ev.succ ?_
      simp only [spec_l3Escaped.l1]
      rw [hc, b0, show wrap64 (0 + 1) = 1 from by unfold wrap64; omega]
      refine Ev.yes (by decide) (Ev.yes (by omega) (Ev.yes (by omega) (Ev.yes (by omega) (Ev.ite (fun e => Ev.yes (by omega) ?_) fun e => ?_))))
      · rw [if_pos e] at hr; exact hr
      · rw [if_neg e] at hr; exact hr
    refine Ev.succ ?_
    simp only [spec_l3Escaped.l0]
    refine Ev.yes (by omega) (S0 _ hl (S1 _ (Nat.le_trans (lenIf x) (by omega)) (S2 _ (Nat.le_trans (lenIf _) (Nat.le_trans (Nat.succ_le_succ (lenIf x)) (by omega))) ?_)))
    unfold escC at z
    by_cases h1 : c = 44
    · subst h1
      simpa using z
    · by_cases h2 : c = 92
      · subst h2
        simpa using z
      · simpa [h1, h2] using z
theorem spec_l3Escaped_ev (s : ByteArray) (hs : s.size ≤ 1048576) : Ev (fun k => spec_l3Escaped.f k s sepS) (escB s) := by
  unfold spec_l3Escaped.f
  exact spec_l3Escaped_l0 s hs s.size 0 (by omega)
theorem escB_size (s : ByteArray) : (escB s).size ≤ 2 * s.size := by
  have h := escL_len sepS s.data.toList
  have e : (escB s).size = (escL sepS s.data.toList).length := by unfold escB; simp [ByteArray.size]
  rw [e]
  rw [Array.length_toList] at h
  exact h
theorem impl_yescape_eq (s : ByteArray) (hs : s.size ≤ 1048576) : impl_yescape.f s sepS = some (escB s) := by
  unfold impl_yescape.f
  rw [if_pos hs]; rfl
def partB (x : Pt) : ByteArray := (x.f0 ++ ⟨#[61]⟩) ++ escB x.f1
def outB (l : List Pt) : Nat → ByteArray
  | 0 => ⟨#[]⟩
  | i + 1 => (if 0 < i then outB l i ++ ⟨#[44]⟩ else outB l i) ++ partB (l.getD i z93)
def nameB (l : List Pt) : ByteArray := if goodDirName l = true then outB l l.length else ⟨#[]⟩
theorem good_sizes {l : List Pt} (h : goodDirName l = true) : l.length ≤ 8 ∧ ∀ x ∈ l, x.f0.size ≤ 30 ∧ x.f1.size ≤ 60 := by
  unfold goodDirName at h
  simp only [Bool.and_eq_true, decide_eq_true_eq, List.all_eq_true] at h
  refine ⟨h.1, fun x hx => ?_⟩
  have := h.2 x hx
  unfold goodPart goodName at this
  simp only [Bool.and_eq_true, decide_eq_true_eq] at this
  exact ⟨this.1.1.1.2, this.2.1.2⟩
theorem partB_size {x : Pt} (h : x.f0.size ≤ 30 ∧ x.f1.size ≤ 60) : (partB x).size ≤ 151 := by
  have := escB_size x.f1
  unfold partB
  rw [ByteArray.size_append, ByteArray.size_append]
  have e : (⟨#[61]⟩ : ByteArray).size = 1 := rfl
  omega
theorem outB_size {l : List Pt} (h : ∀ x ∈ l, x.f0.size ≤ 30 ∧ x.f1.size ≤ 60) : ∀ i, i ≤ l.length → (outB l i).size ≤ 152 * i
  | 0, _ => by unfold outB; exact Nat.le_refl _
  | i + 1, hi => by
    have ih := outB_size h i (by omega)
    have hp : (partB (l.getD i z93)).size ≤ 151 := partB_size (by rw [List.getD_eq_getElem?_getD, List.getElem?_eq_getElem (show i < l.length by omega)]; exact h _ (List.getElem_mem _))
    unfold outB
    rw [ByteArray.size_append]
    have e : (⟨#[44]⟩ : ByteArray).size = 1 := rfl
    split
    · rw [ByteArray.size_append]; omega
    · omega
theorem spec_NameText_l0 (l : List Pt) (hl : l.length ≤ 8) (hf : ∀ x ∈ l, x.f0.size ≤ 30 ∧ x.f1.size ≤ 60) : ∀ (d i : Nat), l.length = i + d → Ev (fun k => spec_NameText.l0 k (outB l i) l (l.length : Int) (i : Int)) (outB l l.length) := by
  intro d
  induction d with
  | zero =>
    intro i h
    obtain rfl : i = l.length := by omega
    refine Ev.succ ?_
    simp only [spec_NameText.l0]
    exact Ev.no (by omega) (Ev.now _)
  | succ d ih =>
    intro i h
    have hi : i < l.length := by omega
    have z := ih (i + 1) (by omega)
    have so := outB_size hf i (by omega)
    have e1 : (⟨#[44]⟩ : ByteArray).size = 1 := rfl
    have e2 : (⟨#[61]⟩ : ByteArray).size = 1 := rfl
    have hx := hf _ (List.getElem_mem hi)
    have eg : l.getD i z93 = l[i] := by rw [List.getD_eq_getElem?_getD, List.getElem?_eq_getElem hi]; rfl
    simp only [outB, eg] at z
    have se := escB_size l[i].f1
    refine Ev.succ ?_
    simp only [spec_NameText.l0]
    rw [rd_impl_Part l i hi, wrap_nat (i := i) (by omega)]
    refine Ev.yes (by omega) (Ev.yes (by omega) (Ev.yes (by omega) (Ev.ite (fun hp => ?_) fun hp => ?_)))
    · rw [if_pos (show 0 < i by omega)] at z
      refine Ev.yes (by omega) (Ev.yes (by omega) ((spec_l3Escaped_ev _ (by omega)).bind (Ev.yes (by rw [ByteArray.size_append]; omega) (Ev.yes (by simp only [ByteArray.size_append]; omega) z))))
    · rw [if_neg (show ¬ 0 < i by omega)] at z
      refine Ev.yes (by omega) ((spec_l3Escaped_ev _ (by omega)).bind (Ev.yes (by rw [ByteArray.size_append]; omega) (Ev.yes (by simp only [ByteArray.size_append]; omega) z)))
theorem spec_NameText_ev (l : List Pt) (hl : l.length ≤ 1048576) (hf : ∀ x ∈ l, fitPart x) : Ev (fun k => spec_NameText.f k l) (nameB l) := by
  unfold spec_NameText.f nameB
  refine (spec_GoodDirName_ev l hl hf).bind (Ev.ite (fun g => ?_) fun g => Ev.some (by rw [if_neg g]))
  rw [if_pos g]
  have q := good_sizes g
  exact spec_NameText_l0 l q.1 q.2 l.length 0 (by omega)
theorem join_snoc (xs : List (List UInt8)) (y sep : List UInt8) : Lib.join (xs ++ [y]) sep = if xs = [] then y else Lib.join xs sep ++ sep ++ y := by
  cases xs with
  | nil => rw [if_pos rfl, List.nil_append, Lib.join_one]
  | cons x r =>
    rw [if_neg (by simp), List.cons_append, Lib.join_cons, Lib.join_cons]
    unfold Lib.joinTail
    simp
theorem joinB_out (l : List Pt) : ∀ i, i ≤ l.length → Lib.join (((l.take i).map partB).map (·.data.toList)) [44] = (outB l i).data.toList
  | 0, _ => rfl
  | i + 1, h => by
    have ih := joinB_out l i (by omega)
    have eg : l.getD i z93 = l[i] := by rw [List.getD_eq_getElem?_getD, List.getElem?_eq_getElem (show i < l.length by omega)]; rfl
    rw [show outB l (i + 1) = (if 0 < i then outB l i ++ ⟨#[44]⟩ else outB l i) ++ partB l[i] from by simp only [outB, eg]]
    rw [List.take_succ_eq_append_getElem (by omega), List.map_append, List.map_append, List.map_cons, List.map_nil, List.map_cons, List.map_nil, join_snoc, ih]
    by_cases h0 : i = 0
    · subst h0
      rw [if_pos (by simp), if_neg (by omega), ByteArray.data_append, Array.toList_append]
      rfl
    · rw [if_neg (by simp; exact ⟨h0, fun q => by rw [q] at h; simp at h⟩), if_pos (by omega), ByteArray.data_append, ByteArray.data_append, Array.toList_append, Array.toList_append]
theorem joinB_all (l : List Pt) : joinB (l.map partB) ⟨#[44]⟩ = outB l l.length := by
  have h := joinB_out l l.length (Nat.le_refl _)
  rw [List.take_length] at h
  unfold joinB
  show (⟨(Lib.join ((l.map partB).map (·.data.toList)) [44]).toArray⟩ : ByteArray) = _
  rw [h]
theorem impl_NameText_l0 (l : List Pt) (hl : l.length ≤ 8) (hf : ∀ x ∈ l, x.f0.size ≤ 30 ∧ x.f1.size ≤ 60) : ∀ (d i : Nat), l.length = i + d → Ev (fun k => impl_NameText.l0 k ((l.take i).map partB) l (l.length : Int) (i : Int)) (outB l l.length) := by
  intro d
  induction d with
  | zero =>
    intro i h
    obtain rfl : i = l.length := by omega
    refine Ev.succ ?_
    simp only [impl_NameText.l0]
    have so := outB_size hf l.length (Nat.le_refl _)
    refine Ev.no (by omega) (Ev.call (a := outB l l.length) ?_ (Ev.now _))
    unfold strings_Join.f
    rw [List.take_length, joinB_all, if_pos (by rw [List.length_map]; omega), if_pos (by omega)]
  | succ d ih =>
    intro i h
    have hi : i < l.length := by omega
    have z := ih (i + 1) (by omega)
    have e2 : (⟨#[61]⟩ : ByteArray).size = 1 := rfl
    have hx := hf _ (List.getElem_mem hi)
    have se := escB_size l[i].f1
    rw [List.take_succ_eq_append_getElem hi, List.map_append, List.map_cons, List.map_nil] at z
    refine Ev.succ ?_
    simp only [impl_NameText.l0]
    rw [rd_impl_Part l i hi, wrap_nat (i := i) (by omega)]
    refine Ev.yes (by omega) (Ev.yes (by omega) (Ev.yes (by omega) (Ev.yes (by omega) (Ev.call (impl_yescape_eq _ (by omega)) (Ev.yes (by rw [ByteArray.size_append]; omega) (Ev.yes (by rw [List.length_map, List.length_take]; omega) z))))))
theorem impl_NameText_ev (l : List Pt) (hl : l.length ≤ 1048576) (hf : ∀ x ∈ l, fitPart x) : Ev (fun k => impl_NameText.f k l) (nameB l) := by
  unfold impl_NameText.f nameB
  refine (impl_GoodDirName_ev l hl hf).bind (Ev.ite (fun g => ?_) fun g => Ev.some (by rw [if_neg g]))
  rw [if_pos g]
  have q := good_sizes g
  exact impl_NameText_l0 l q.1 q.2 l.length 0 (by omega)
theorem eqPart_self (y0 : ByteArray) (y1 : ByteArray) : laws_eqPart.f y0 y1 y0 y1 = some true := by
  simp [laws_eqPart.f]
theorem eqPartS_self (a : List S93) (ha : a.length ≤ 1048576) : Ev (fun k => laws_eqPartS.f k a a) true := by
  unfold laws_eqPartS.f
  refine Ev.yes rfl (self_loop (L := fun k i => laws_eqPartS.l0 k a a i) (n := a.length) (fun i hi hr => ?_) ?_ a.length 0 (by omega))
  · refine Ev.succ ?_
    simp only [laws_eqPartS.l0]
    rw [← wrap_nat (by omega)] at hr
    exact Ev.yes (by omega) (Ev.yes (by omega) (Ev.yes (by omega) (Ev.call (eqPart_self _ _) (Ev.yes rfl hr))))
  · refine Ev.succ ?_
    simp only [laws_eqPartS.l0]
    exact Ev.no (by omega) (Ev.now _)
/-! ### bytes of texts, as lists -/
abbrev U8s : Type := List UInt8
abbrev toI (l : U8s) : List Int := l.map fun b => (b.toNat : Int)
def mkB (l : U8s) : ByteArray := ⟨l.toArray⟩
theorem strOf (l : U8s) : strOfNums (toI l) = mkB l := by
  unfold strOfNums toI mkB
  rw [List.map_map]
  congr 2
  conv => rhs; rw [← List.map_id l]
  refine List.map_congr_left fun b _ => ?_
  simp
theorem mkB_data (s : ByteArray) : mkB s.data.toList = s := by
  unfold mkB; cases s; rfl
theorem mkB_toList (l : U8s) : (mkB l).data.toList = l := by unfold mkB; simp
theorem mkB_size (l : U8s) : (mkB l).size = l.length := by unfold mkB; simp [ByteArray.size]
theorem mkB_snoc (l : U8s) (c : UInt8) : mkB l ++ mkB [c] = mkB (l ++ [c]) := by
  have h : (mkB l ++ mkB [c]).data.toList = (mkB (l ++ [c])).data.toList := by
    rw [ByteArray.data_append, Array.toList_append, mkB_toList, mkB_toList, mkB_toList]
  rw [← mkB_data (mkB l ++ mkB [c]), h, mkB_data]
theorem dropCons {T : ByteArray} {i : Nat} {c : UInt8} {S : U8s} (h : T.data.toList.drop i = c :: S) : i < T.size ∧ bt T (i : Int) = (c.toNat : Int) ∧ T.data.toList.drop (i + 1) = S := by
  have hi : i < T.data.toList.length := by
    rcases Nat.lt_or_ge i T.data.toList.length with q | q
    · exact q
    · rw [List.drop_eq_nil_of_le q] at h; cases h
  have e := List.drop_eq_getElem_cons hi
  rw [h] at e
  have h1 := (List.cons.inj e).1
  have h2 := (List.cons.inj e).2
  have hs : i < T.size := by rw [← data_length]; exact hi
  refine ⟨hs, ?_, h2.symm⟩
  rw [bt_nat T i hs, h1]
  unfold bytesOf
  rw [List.getElem_map]
theorem dropNil {T : ByteArray} {i : Nat} (hi : i ≤ T.size) (h : T.data.toList.drop i = []) : i = T.size := by
  have := congrArg List.length h
  rw [List.length_drop, data_length] at this
  simp at this
  omega
theorem extract_one {T : ByteArray} {i : Nat} {c : UInt8} {S : U8s} (h : T.data.toList.drop i = c :: S) : T.extract i (i + 1) = mkB [c] := by
  rw [← mkB_data (T.extract i (i + 1)), Lib.extract_data, h, show i + 1 - i = 1 by omega]; rfl
theorem u8ne {c : UInt8} {n : Nat} (hn : n < 256) (h : c ≠ UInt8.ofNat n) : ¬ ((c.toNat : Nat) : Int) = (n : Int) := fun q => h ((u8_val c n hn).1 q)
def nameU (x : Pt) : U8s := x.f0.data.toList ++ 61 :: escL sepS x.f1.data.toList
def tailU : List Pt → U8s
  | [] => []
  | x :: r => 44 :: (nameU x ++ tailU r)
theorem partB_U (x : Pt) : (partB x).data.toList = nameU x := by
  unfold partB nameU escB
  rw [ByteArray.data_append, ByteArray.data_append, Array.toList_append, Array.toList_append, List.append_assoc]
  rfl
theorem outB_U (x : Pt) (r : List Pt) : (outB (x :: r) (x :: r).length).data.toList = nameU x ++ tailU r := by
  have h := joinB_out (x :: r) (x :: r).length (Nat.le_refl _)
  rw [List.take_length] at h
  rw [← h, List.map_cons, List.map_cons, Lib.join_cons, partB_U]
  congr 1
  induction r with
  | nil => rfl
  | cons y r ih =>
    have ih2 : ∀ r : List Pt, Lib.joinTail [44] ((r.map partB).map (·.data.toList)) = tailU r := by
      intro r
      induction r with
      | nil => rfl
      | cons z r ih3 =>
        unfold Lib.joinTail at *
        rw [List.map_cons, List.map_cons, List.map_cons, List.flatten_cons, ih3, partB_U]
        rfl
    exact ih2 (y :: r)
theorem esc_cons (c : UInt8) (l : U8s) : escL sepS (c :: l) = (if c = 44 ∨ c = 92 then [92, c] else [c]) ++ escL sepS l := by
  unfold escL
  rw [List.flatMap_cons]
  have hi := idx_iff c
  congr 1
  by_cases h : c = 44 ∨ c = 92
  · rw [if_pos (hi.2 h), if_pos h]
  · rw [if_neg (fun q => h (hi.1 q)), if_neg h]
/-! ### the reference's reading, at what NameText writes -/
section
variable (T : ByteArray) (hT : T.size ≤ 2000)
abbrev sL (k : Nat) (x4 : List Pt) (P : U8s) (b : Bool) (i : Nat) (p0 p1 : ByteArray) : Option (List Pt × Bool) := spec_ReadName.l0 k T x4 (toI P) b (i : Int) p0 p1
include hT in
theorem s_char {x4 : List Pt} {P : U8s} {b : Bool} {i : Nat} {p0 p1 : ByteArray} {r : List Pt × Bool} (c : UInt8) (S : U8s) (h : T.data.toList.drop i = c :: S) (hP : P.length ≤ 2000)
    (h1 : b = false → c ≠ 61) (h2 : b = true → c ≠ 44 ∧ c ≠ 92) (hr : Ev (fun k => sL T k x4 (P ++ [c]) b (i + 1) p0 p1) r) : Ev (fun k => sL T k x4 P b i p0 p1) r := by
  obtain ⟨hi, hb, hd⟩ := dropCons h
  refine Ev.succ ?_
  simp only [sL, spec_ReadName.l0]
  rw [hb]
  have last : Ev (fun k => spec_ReadName.j3 k T x4 (toI P) b (i : Int) (c.toNat : Int) false p0 p1) r := by
    refine Ev.succ ?_
    simp only [spec_ReadName.j3]
    rw [wrap_nat (i := i) (by omega)]
    refine Ev.no (by decide) (Ev.yes (by rw [List.length_map]; omega) ?_)
    have e : toI P ++ [(c.toNat : Int)] = toI (P ++ [c]) := by simp [toI]
    rw [e]
    exact hr
  refine Ev.yes (by omega) (Ev.yes (by omega) ?_)
  cases b with
  | false =>
    refine Ev.no (by decide) ?_
    have e : ((c.toNat : Int) == 61) = false := beq_eq_false_iff_ne.2 (u8ne (n := 61) (by omega) (h1 rfl))
    rw [e]
    refine Ev.succ ?_
    simp only [spec_ReadName.j1]
    refine Ev.no (by decide) (Ev.no (by decide) ?_)
    refine Ev.succ ?_
    simp only [spec_ReadName.j2]
    exact Ev.no (by decide) (Ev.no (by decide) last)
  | true =>
    refine Ev.yes rfl ?_
    refine Ev.succ ?_
    simp only [spec_ReadName.j1]
    refine Ev.no (by decide) (Ev.yes trivial ?_)
    have e : ((c.toNat : Int) == 44) = false := beq_eq_false_iff_ne.2 (u8ne (n := 44) (by omega) (h2 rfl).1)
    have e' : ((c.toNat : Int) == 92) = false := beq_eq_false_iff_ne.2 (u8ne (n := 92) (by omega) (h2 rfl).2)
    rw [e]
    refine Ev.succ ?_
    simp only [spec_ReadName.j2]
    rw [e']
    exact Ev.no (by decide) (Ev.yes trivial last)
include hT in
theorem s_attr {x4 : List Pt} {p0 p1 : ByteArray} {r : List Pt × Bool} (S : U8s) : ∀ (A P : U8s) (i : Nat), T.data.toList.drop i = A ++ S → P.length + A.length ≤ 2000 → (∀ a ∈ A, a ≠ 61) →
    Ev (fun k => sL T k x4 (P ++ A) false (i + A.length) p0 p1) r → Ev (fun k => sL T k x4 P false i p0 p1) r
  | [], P, i, _, _, _, hr => by rw [List.append_nil] at hr; exact hr
  | a :: A, P, i, h, hl, hA, hr => by
    rw [List.length_cons] at hl
    refine s_char T hT a (A ++ S) h (by omega) (fun _ => hA a (by simp)) (fun q => absurd q (by decide)) ?_
    refine s_attr S A (P ++ [a]) (i + 1) (dropCons h).2.2 (by rw [List.length_append]; simp; omega) (fun b hb => hA b (by simp [hb])) ?_
    rw [List.append_assoc, show i + 1 + A.length = i + (a :: A).length by rw [List.length_cons]; omega]
    exact hr
include hT in
theorem s_eq {x4 : List Pt} {P S : U8s} {i : Nat} {p0 p1 : ByteArray} {r : List Pt × Bool} (h : T.data.toList.drop i = 61 :: S) (hr : Ev (fun k => sL T k x4 [] true (i + 1) (mkB P) p1) r) : Ev (fun k => sL T k x4 P false i p0 p1) r := by
  obtain ⟨hi, hb, hd⟩ := dropCons h
  refine Ev.succ ?_
  simp only [sL, spec_ReadName.l0]
  rw [hb]
  refine Ev.yes (by omega) (Ev.yes (by omega) (Ev.no (by decide) ?_))
  refine Ev.succ ?_
  simp only [spec_ReadName.j1]
  rw [wrap_nat (i := i) (by omega), strOf]
  exact Ev.yes rfl hr
include hT in
theorem s_esc {x4 : List Pt} {P S : U8s} {i : Nat} {p0 p1 : ByteArray} {r : List Pt × Bool} (c : UInt8) (h : T.data.toList.drop i = 92 :: c :: S) (hP : P.length ≤ 2000) (hr : Ev (fun k => sL T k x4 (P ++ [c]) true (i + 2) p0 p1) r) : Ev (fun k => sL T k x4 P true i p0 p1) r := by
  obtain ⟨hi, hb, hd⟩ := dropCons h
  obtain ⟨hi2, hb2, hd2⟩ := dropCons hd
  refine Ev.succ ?_
  simp only [sL, spec_ReadName.l0]
  rw [hb]
  refine Ev.yes (by omega) (Ev.yes (by omega) (Ev.yes trivial ?_))
  refine Ev.succ ?_
  simp only [spec_ReadName.j1]
  refine Ev.no (by decide) (Ev.yes trivial ?_)
  refine Ev.succ ?_
  simp only [spec_ReadName.j2]
  refine Ev.no (by decide) (Ev.yes trivial ?_)
  refine Ev.succ ?_
  simp only [spec_ReadName.j3]
  rw [wrap_nat (i := i) (by omega), wrap_nat (i := i + 1) (by omega), hb2]
  refine Ev.yes rfl (Ev.no (by omega) (Ev.yes (by omega) (Ev.yes (by omega) (Ev.yes (by rw [List.length_map]; omega) ?_))))
  have e : toI P ++ [(c.toNat : Int)] = toI (P ++ [c]) := by simp [toI]
  rw [e]
  exact hr
include hT in
theorem s_text {x4 : List Pt} {p0 p1 : ByteArray} {r : List Pt × Bool} (S : U8s) : ∀ (A P : U8s) (i : Nat), T.data.toList.drop i = escL sepS A ++ S → P.length + A.length ≤ 2000 →
    Ev (fun k => sL T k x4 (P ++ A) true (i + (escL sepS A).length) p0 p1) r → Ev (fun k => sL T k x4 P true i p0 p1) r
  | [], P, i, _, _, hr => by rw [List.append_nil] at hr; exact hr
  | a :: A, P, i, h, hl, hr => by
    rw [List.length_cons] at hl
    rw [esc_cons] at h hr
    by_cases hc : a = 44 ∨ a = 92
    · rw [if_pos hc] at h hr
      refine s_esc T hT a h (by omega) ?_
      refine s_text S A (P ++ [a]) (i + 2) (dropCons (dropCons h).2.2).2.2 (by rw [List.length_append]; simp; omega) ?_
      rw [List.append_assoc, show i + 2 + (escL sepS A).length = i + ([92, a] ++ escL sepS A).length by simp; omega]
      exact hr
    · rw [if_neg hc] at h hr
      refine s_char T hT a (escL sepS A ++ S) h (by omega) (fun q => absurd q (by decide)) (fun _ => ⟨fun q => hc (Or.inl q), fun q => hc (Or.inr q)⟩) ?_
      refine s_text S A (P ++ [a]) (i + 1) (dropCons h).2.2 (by rw [List.length_append]; simp; omega) ?_
      rw [List.append_assoc, show i + 1 + (escL sepS A).length = i + ([a] ++ escL sepS A).length by simp; omega]
      exact hr
include hT in
theorem s_comma {x4 : List Pt} {P S : U8s} {i : Nat} {p0 p1 : ByteArray} {r : List Pt × Bool} (h : T.data.toList.drop i = 44 :: S) (hx : x4.length ≤ 2000) (hr : Ev (fun k => sL T k (x4 ++ [⟨p0, mkB P⟩]) [] false (i + 1) p0 (mkB P)) r) : Ev (fun k => sL T k x4 P true i p0 p1) r := by
  obtain ⟨hi, hb, hd⟩ := dropCons h
  refine Ev.succ ?_
  simp only [sL, spec_ReadName.l0]
  rw [hb]
  refine Ev.yes (by omega) (Ev.yes (by omega) (Ev.yes trivial ?_))
  refine Ev.succ ?_
  simp only [spec_ReadName.j1]
  refine Ev.no (by decide) (Ev.yes trivial ?_)
  refine Ev.succ ?_
  simp only [spec_ReadName.j2]
  rw [wrap_nat (i := i) (by omega), strOf]
  exact Ev.yes rfl (Ev.yes (by omega) hr)
def fits8 (l : List Pt) : Prop := l.length ≤ 2001 ∧ ∀ x ∈ l, x.f0.size ≤ 2001 ∧ x.f1.size ≤ 2001
theorem fits8_snoc {l : List Pt} {x : Pt} (h : fits8 l) (hl : l.length ≤ 2000) (h0 : x.f0.size ≤ 2001) (h1 : x.f1.size ≤ 2001) : fits8 (l ++ [x]) := by
  refine ⟨by rw [List.length_append]; simp; omega, fun y hy => ?_⟩
  rcases List.mem_append.1 hy with q | q
  · exact h.2 y q
  · obtain rfl := List.mem_singleton.1 q; exact ⟨h0, h1⟩
theorem spec_NameText_8 {l : List Pt} (h : fits8 l) : Ev (fun k => spec_NameText.f k l) (nameB l) := spec_NameText_ev l (by have := h.1; omega) fun x hx => ⟨by have := (h.2 x hx).1; omega, by have := (h.2 x hx).2; omega⟩
theorem impl_NameText_8 {l : List Pt} (h : fits8 l) : Ev (fun k => impl_NameText.f k l) (nameB l) := impl_NameText_ev l (by have := h.1; omega) fun x hx => ⟨by have := (h.2 x hx).1; omega, by have := (h.2 x hx).2; omega⟩
theorem impl_GoodDirName_8 {l : List Pt} (h : fits8 l) : Ev (fun k => impl_GoodDirName.f k l) (goodDirName l) := impl_GoodDirName_ev l (by have := h.1; omega) fun x hx => ⟨by have := (h.2 x hx).1; omega, by have := (h.2 x hx).2; omega⟩
theorem s_end {x4 : List Pt} {P : U8s} {p0 p1 : ByteArray} {r : List Pt × Bool} (hx : x4.length ≤ 2000) (hf : fits8 (x4 ++ [⟨p0, mkB P⟩])) (h1 : (nameB (x4 ++ [⟨p0, mkB P⟩])).toList = T.toList → r = (x4 ++ [⟨p0, mkB P⟩], true)) (h2 : (nameB (x4 ++ [⟨p0, mkB P⟩])).toList ≠ T.toList → r = ([], false)) :
    Ev (fun k => sL T k x4 P true T.size p0 p1) r := by
  refine Ev.succ ?_
  simp only [sL, spec_ReadName.l0]
  rw [strOf]
  refine Ev.no (by omega) (Ev.yes (by omega) (Ev.call rfl (Ev.yes trivial ?_)))
  exact (spec_NameText_8 hf).bind (Ev.ite (fun e => Ev.some (h1 e).symm) fun e => Ev.some (h2 e).symm)
theorem noEq {x : Pt} (h : goodName x.f0 = true) : ∀ a ∈ x.f0.data.toList, a ≠ 61 := by
  intro a ha e
  unfold goodName at h
  simp only [Bool.and_eq_true, List.all_eq_true] at h
  have := h.2 (a.toNat : Int) (by unfold bytesOf; exact List.mem_map.2 ⟨a, ha, rfl⟩)
  subst e
  exact absurd this (by decide)
include hT in
theorem s_name : ∀ (rest : List Pt) (x : Pt) (x4 : List Pt) (i : Nat) (p0 p1 : ByteArray), T.data.toList.drop i = nameU x ++ tailU rest → (∀ y ∈ x :: rest, goodName y.f0 = true ∧ y.f0.size ≤ 30 ∧ y.f1.size ≤ 60) → fits8 (x4 ++ x :: rest) → x4.length + rest.length ≤ 100 → (nameB (x4 ++ x :: rest)).toList = T.toList →
    Ev (fun k => sL T k x4 [] false i p0 p1) (x4 ++ x :: rest, true) := by
  intro rest
  induction rest with
  | nil =>
    intro x x4 i p0 p1 hd hg hf hlen hn
    obtain ⟨g0, g1, g2⟩ := hg x (by simp)
    unfold nameU at hd
    rw [List.append_assoc] at hd
    have i0 : i ≤ T.size := by
      rcases Nat.lt_or_ge T.size i with q | q
      · rw [List.drop_eq_nil_of_le (by rw [data_length]; omega)] at hd; simp at hd
      · exact q
    refine s_attr T hT _ x.f0.data.toList [] i hd (by rw [data_length]; simp; omega) (noEq g0) ?_
    rw [List.nil_append]
    have hd1 : T.data.toList.drop (i + x.f0.data.toList.length) = 61 :: (escL sepS x.f1.data.toList ++ tailU []) := by
      rw [← List.drop_drop, hd, List.drop_left]; rfl
    refine s_eq T hT hd1 ?_
    rw [mkB_data]
    have hd2 := (dropCons hd1).2.2
    refine s_text T hT (tailU []) x.f1.data.toList [] _ hd2 (by rw [data_length]; simp; omega) ?_
    rw [List.nil_append]
    have hd3 : T.data.toList.drop (i + x.f0.data.toList.length + 1 + (escL sepS x.f1.data.toList).length) = [] := by
      rw [← List.drop_drop, hd2, List.drop_left]; rfl
    have hle : i + x.f0.data.toList.length + 1 + (escL sepS x.f1.data.toList).length ≤ T.size := by
      have := congrArg List.length hd2
      rw [List.length_drop, data_length, List.length_append] at this
      have := (dropCons hd1).1
      simp [tailU] at *
      omega
    rw [dropNil hle hd3]
    have e : (⟨x.f0, mkB x.f1.data.toList⟩ : Pt) = x := by rw [mkB_data]
    refine s_end T (by omega) (by rw [e]; exact hf) (fun _ => by rw [e]) (fun q => absurd (by rw [e]; exact hn) q)
  | cons y rest ih =>
    intro x x4 i p0 p1 hd hg hf hlen hn
    obtain ⟨g0, g1, g2⟩ := hg x (by simp)
    unfold nameU at hd
    rw [List.append_assoc] at hd
    rw [List.length_cons] at hlen
    refine s_attr T hT _ x.f0.data.toList [] i hd (by rw [data_length]; simp; omega) (noEq g0) ?_
    rw [List.nil_append]
    have hd1 : T.data.toList.drop (i + x.f0.data.toList.length) = 61 :: (escL sepS x.f1.data.toList ++ tailU (y :: rest)) := by
      rw [← List.drop_drop, hd, List.drop_left]; rfl
    refine s_eq T hT hd1 ?_
    rw [mkB_data]
    have hd2 := (dropCons hd1).2.2
    refine s_text T hT (tailU (y :: rest)) x.f1.data.toList [] _ hd2 (by rw [data_length]; simp; omega) ?_
    rw [List.nil_append]
    have hd3 : T.data.toList.drop (i + x.f0.data.toList.length + 1 + (escL sepS x.f1.data.toList).length) = 44 :: (nameU y ++ tailU rest) := by
      rw [← List.drop_drop, hd2, List.drop_left]; rfl
    refine s_comma T hT hd3 (by omega) ?_
    rw [mkB_data]
    have e : x4 ++ x :: y :: rest = (x4 ++ [x]) ++ y :: rest := by simp
    rw [e] at hf hn ⊢
    exact ih y (x4 ++ [x]) _ x.f0 x.f1 (dropCons hd3).2.2 (fun z hz => hg z (by simp [List.mem_cons.1 hz])) hf (by rw [List.length_append]; simp; omega) hn
end
/-! ### the program's reading, at what NameText writes -/
theorem idx_at (S : U8s) : ∀ A : U8s, (∀ a ∈ A, a ≠ 61) → Lib.indexByte (A ++ 61 :: S) 61 = (A.length : Int)
  | [], _ => by unfold Lib.indexByte; simp
  | a :: A, h => by
    have ih := idx_at S A fun b hb => h b (by simp [hb])
    rw [List.cons_append]
    unfold Lib.indexByte
    rw [ih]
    have e : (a == (61 : UInt8)) = false := beq_eq_false_iff_ne.2 (h a (by simp))
    have e2 : ((A.length : Int) == -1) = false := beq_eq_false_iff_ne.2 (by omega)
    rw [e, e2]
    simp
theorem idx_lt (c : UInt8) : ∀ l : U8s, Lib.indexByte l c ≥ 0 → Lib.indexByte l c < (l.length : Int)
  | [], h => by unfold Lib.indexByte at h; exact absurd h (by decide)
  | b :: l, h => by
    have ih := idx_lt c l
    unfold Lib.indexByte at h ⊢
    rw [List.length_cons]
    by_cases q : (b == c) = true
    · rw [if_pos q]; omega
    · rw [if_neg q] at h ⊢
      by_cases q2 : (Lib.indexByte l c == -1) = true
      · rw [if_pos q2] at h; exact absurd h (by decide)
      · rw [if_neg q2] at h ⊢
        have q3 : Lib.indexByte l c ≠ -1 := fun e => q2 (beq_iff_eq.2 e)
        have := ih (by omega)
        omega
theorem emptyL : (⟨#[]⟩ : ByteArray).toList = [] := by rw [Lib.toList_data]
theorem index_f (R : ByteArray) : stringslite_Index.f R ⟨#[61]⟩ = some (Lib.indexByte R.data.toList 61) := by
  unfold stringslite_Index.f
  rw [if_pos (show (⟨#[61]⟩ : ByteArray).size = 1 from rfl)]; rfl
theorem cut_at {R : ByteArray} {A S : U8s} (h : R.data.toList = A ++ 61 :: S) (hA : ∀ a ∈ A, a ≠ 61) (hs : R.size ≤ 2000) : strings_Cut.f R ⟨#[61]⟩ = some (mkB A, mkB S, true) := by
  have hl : R.size = A.length + 1 + S.length := by rw [← data_length, h]; simp; omega
  have e1 : (⟨#[61]⟩ : ByteArray).size = 1 := rfl
  unfold strings_Cut.f stringslite_Cut.f
  rw [index_f, Option.bind_some, h, idx_at S A hA]
  rw [if_pos (by omega), if_pos (by omega), if_pos (by omega), e1]
  rw [show wrap64 ((A.length : Int) + ((1 : Nat) : Int)) = ((A.length + 1 : Nat) : Int) from by rw [wrap_id (by omega) (by omega)]; omega]
  rw [if_pos (by omega), if_pos (by omega), Option.bind_some, Int.toNat_natCast, Int.toNat_natCast]
  have a1 : R.extract 0 A.length = mkB A := by
    rw [← mkB_data (R.extract 0 A.length), Lib.extract_data, h]; simp
  have a2 : R.extract (A.length + 1) R.size = mkB S := by
    rw [← mkB_data (R.extract (A.length + 1) R.size), Lib.extract_data, h, hl]
    rw [← List.drop_drop, List.drop_left, List.drop_succ_cons, List.drop_zero]
    congr 1
    exact List.take_of_length_le (by omega)
  rw [a1, a2]
theorem cut_any (R : ByteArray) (hs : R.size ≤ 2000) : ∃ a t ok, strings_Cut.f R ⟨#[61]⟩ = some (a, t, ok) ∧ a.size ≤ R.size ∧ (ok = true → t.size + 1 ≤ R.size) := by
  have e1 : (⟨#[61]⟩ : ByteArray).size = 1 := rfl
  unfold strings_Cut.f stringslite_Cut.f
  rw [index_f, Option.bind_some]
  by_cases h : Lib.indexByte R.data.toList 61 ≥ 0
  · obtain ⟨o, ho⟩ : ∃ o : Nat, Lib.indexByte R.data.toList 61 = (o : Int) := ⟨(Lib.indexByte R.data.toList 61).toNat, by omega⟩
    have hlt : o < R.size := by
      have := idx_lt 61 R.data.toList h
      rw [ho, data_length] at this
      omega
    rw [ho, if_pos (by omega), if_pos (by omega), if_pos (by omega), e1]
    rw [show wrap64 ((o : Int) + ((1 : Nat) : Int)) = ((o + 1 : Nat) : Int) from by rw [wrap_id (by omega) (by omega)]; omega]
    rw [if_pos (by omega), if_pos (by omega), Option.bind_some, Int.toNat_natCast, Int.toNat_natCast]
    refine ⟨_, _, _, rfl, ?_, fun _ => ?_⟩
    · rw [← data_length, Lib.extract_data, List.length_take, List.length_drop, data_length]; omega
    · rw [← data_length (R.extract _ _), Lib.extract_data, List.length_take, List.length_drop, data_length]; omega
  · rw [if_neg h, Option.bind_some]
    exact ⟨_, _, _, rfl, Nat.le_refl _, fun q => by simp at q⟩
def Out (T : ByteArray) (r : List Pt × Bool) : Prop := r = ([], false) ∨ (r.2 = true ∧ (nameB r.1).toList = T.toList)
section
variable (T : ByteArray)
abbrev iL (k : Nat) (x4 : List Pt) (R t : ByteArray) (i : Nat) (a : ByteArray) (P : U8s) : Option (List Pt × Bool) := impl_ReadName.l1 k T x4 R false t (i : Int) a (mkB P)
theorem i_char {x4 : List Pt} {R t a : ByteArray} {P : U8s} {i : Nat} {r : List Pt × Bool} (ht : t.size ≤ 2000) (c : UInt8) (S : U8s) (h : t.data.toList.drop i = c :: S) (hP : P.length ≤ 2000) (h1 : c ≠ 44) (h2 : c ≠ 92)
    (hr : Ev (fun k => iL T k x4 R t (i + 1) a (P ++ [c])) r) : Ev (fun k => iL T k x4 R t i a P) r := by
  obtain ⟨hi, hb, hd⟩ := dropCons h
  refine Ev.succ ?_
  simp only [iL, impl_ReadName.l1]
  rw [hb, wrap_nat (i := i) (by omega), Int.toNat_natCast, Int.toNat_natCast, extract_one h, mkB_snoc]
  exact Ev.yes (by omega) (Ev.yes (by omega) (Ev.no (u8ne (n := 44) (by omega) h1) (Ev.no (u8ne (n := 92) (by omega) h2) (Ev.yes (by omega) (Ev.yes (by omega) (Ev.yes (by rw [mkB_size, mkB_size]; simp; omega) hr))))))
theorem i_esc {x4 : List Pt} {R t a : ByteArray} {P S : U8s} {i : Nat} {r : List Pt × Bool} (ht : t.size ≤ 2000) (c : UInt8) (h : t.data.toList.drop i = 92 :: c :: S) (hP : P.length ≤ 2000)
    (hr : Ev (fun k => iL T k x4 R t (i + 2) a (P ++ [c])) r) : Ev (fun k => iL T k x4 R t i a P) r := by
  obtain ⟨hi, hb, hd⟩ := dropCons h
  obtain ⟨hi2, hb2, hd2⟩ := dropCons hd
  refine Ev.succ ?_
  simp only [iL, impl_ReadName.l1]
  rw [hb, wrap_nat (i := i) (by omega), wrap_nat (i := i + 1) (by omega), Int.toNat_natCast, Int.toNat_natCast, extract_one hd, mkB_snoc]
  exact Ev.yes (by omega) (Ev.yes (by omega) (Ev.no (by decide) (Ev.yes rfl (Ev.no (by omega) (Ev.yes (by omega) (Ev.yes (by omega) (Ev.yes (by omega) (Ev.yes (by rw [mkB_size, mkB_size]; simp; omega) hr))))))))
theorem i_text {x4 : List Pt} {R t a : ByteArray} {r : List Pt × Bool} (ht : t.size ≤ 2000) (S : U8s) : ∀ (A P : U8s) (i : Nat), t.data.toList.drop i = escL sepS A ++ S → P.length + A.length ≤ 2000 →
    Ev (fun k => iL T k x4 R t (i + (escL sepS A).length) a (P ++ A)) r → Ev (fun k => iL T k x4 R t i a P) r
  | [], P, i, _, _, hr => by rw [List.append_nil] at hr; exact hr
  | b :: A, P, i, h, hl, hr => by
    rw [List.length_cons] at hl
    rw [esc_cons] at h hr
    by_cases hc : b = 44 ∨ b = 92
    · rw [if_pos hc] at h hr
      refine i_esc T ht b h (by omega) ?_
      refine i_text ht S A (P ++ [b]) (i + 2) (dropCons (dropCons h).2.2).2.2 (by rw [List.length_append]; simp; omega) ?_
      rw [List.append_assoc, show i + 2 + (escL sepS A).length = i + ([92, b] ++ escL sepS A).length by simp; omega]
      exact hr
    · rw [if_neg hc] at h hr
      refine i_char T ht b (escL sepS A ++ S) h (by omega) (fun q => hc (Or.inl q)) (fun q => hc (Or.inr q)) ?_
      refine i_text ht S A (P ++ [b]) (i + 1) (dropCons h).2.2 (by rw [List.length_append]; simp; omega) ?_
      rw [List.append_assoc, show i + 1 + (escL sepS A).length = i + ([b] ++ escL sepS A).length by simp; omega]
      exact hr
theorem i_fin {x4 : List Pt} {R : ByteArray} (hT : T.toList ≠ []) (hf : fits8 x4) {r : List Pt × Bool} (h1 : (nameB x4).toList = T.toList → r = (x4, true)) (h2 : (nameB x4).toList ≠ T.toList → r = ([], false)) : Ev (fun k => impl_ReadName.l0 k T x4 R false) r := by
  refine Ev.succ ?_
  simp only [impl_ReadName.l0]
  refine Ev.no (by decide) ((impl_GoodDirName_8 hf).bind (Ev.ite (fun g => (impl_NameText_8 hf).bind (Ev.ite (fun e => Ev.some (h1 e).symm) fun e => Ev.some (h2 e).symm)) fun g => Ev.some ?_))
  refine (h2 fun q => hT ?_).symm
  rw [← q]
  unfold nameB
  rw [if_neg g]; exact emptyL
theorem i_name (hT : T.toList ≠ []) : ∀ (rest : List Pt) (x : Pt) (x4 : List Pt) (R : ByteArray), R.data.toList = nameU x ++ tailU rest → R.size ≤ 2000 → (∀ y ∈ x :: rest, goodName y.f0 = true ∧ y.f0.size ≤ 30 ∧ y.f1.size ≤ 60) → fits8 (x4 ++ x :: rest) → x4.length + rest.length ≤ 100 → (nameB (x4 ++ x :: rest)).toList = T.toList →
    Ev (fun k => impl_ReadName.l0 k T x4 R true) (x4 ++ x :: rest, true) := by
  intro rest
  induction rest with
  | nil =>
    intro x x4 R hd hs hg hf hlen hn
    obtain ⟨g0, g1, g2⟩ := hg x (by simp)
    unfold nameU at hd
    rw [List.append_assoc, List.cons_append] at hd
    have hl : R.size = x.f0.data.toList.length + 1 + (escL sepS x.f1.data.toList ++ tailU []).length := by rw [← data_length, hd]; simp; omega
    refine Ev.succ ?_
    simp only [impl_ReadName.l0]
    refine Ev.yes trivial (Ev.call (cut_at hd (noEq g0) hs) (Ev.yes rfl ?_))
    rw [mkB_data]
    simp only []
    refine i_text T (by rw [mkB_size]; omega) (tailU []) x.f1.data.toList [] 0 (by rw [mkB_toList]; rfl) (by rw [data_length]; simp; omega) ?_
    rw [List.nil_append]
    refine Ev.succ ?_
    simp only [iL, impl_ReadName.l1]
    rw [mkB_size, mkB_data]
    refine Ev.no (by simp [tailU]) (Ev.yes (by omega) (Ev.call rfl (Ev.no (by decide) ?_)))
    exact i_fin T hT hf (fun _ => rfl) (fun q => absurd hn q)
  | cons y rest ih =>
    intro x x4 R hd hs hg hf hlen hn
    obtain ⟨g0, g1, g2⟩ := hg x (by simp)
    unfold nameU at hd
    rw [List.append_assoc, List.cons_append] at hd
    rw [List.length_cons] at hlen
    have hl : R.size = x.f0.data.toList.length + 1 + (escL sepS x.f1.data.toList ++ tailU (y :: rest)).length := by rw [← data_length, hd]; simp; omega
    refine Ev.succ ?_
    simp only [impl_ReadName.l0]
    refine Ev.yes trivial (Ev.call (cut_at hd (noEq g0) hs) (Ev.yes rfl ?_))
    rw [mkB_data]
    simp only []
    refine i_text T (by rw [mkB_size]; omega) (tailU (y :: rest)) x.f1.data.toList [] 0 (by rw [mkB_toList]; rfl) (by rw [data_length]; simp; omega) ?_
    rw [List.nil_append]
    have hd3 : (mkB (escL sepS x.f1.data.toList ++ tailU (y :: rest))).data.toList.drop (0 + (escL sepS x.f1.data.toList).length) = 44 :: (nameU y ++ tailU rest) := by
      rw [mkB_toList, Nat.zero_add, List.drop_left]; rfl
    obtain ⟨hi, hb, hd4⟩ := dropCons hd3
    refine Ev.succ ?_
    simp only [iL, impl_ReadName.l1]
    rw [hb, wrap_nat (by rw [mkB_size] at hi; omega), Int.toNat_natCast, mkB_data]
    rw [mkB_size] at hi ⊢
    refine Ev.yes (by omega) (Ev.yes (by omega) (Ev.yes rfl (Ev.yes (by omega) (Ev.yes (by omega) (Ev.yes (by omega) ?_)))))
    have e : x4 ++ x :: y :: rest = (x4 ++ [x]) ++ y :: rest := by simp
    rw [e] at hf hn ⊢
    refine ih y (x4 ++ [x]) _ ?_ ?_ (fun z hz => hg z (by simp [List.mem_cons.1 hz])) hf (by rw [List.length_append]; simp; omega) hn
    · rw [Lib.extract_data, hd4, List.take_of_length_le]
      have := congrArg List.length hd4
      rw [List.length_drop, mkB_toList] at this
      omega
    · rw [← data_length, Lib.extract_data, List.length_take, List.length_drop, mkB_toList]; omega
/-! ### whatever the text, both readings end -/
theorem s_total (hT : T.size ≤ 2000) : ∀ (d i : Nat) (x4 : List Pt) (PI : List Int) (b : Bool) (p0 p1 : ByteArray), T.size ≤ i + d → i ≤ T.size → x4.length ≤ i → fits8 x4 → PI.length ≤ i → p0.size ≤ 2001 →
    ∃ r, Ev (fun k => spec_ReadName.l0 k T x4 PI b (i : Int) p0 p1) r ∧ Out T r := by
  intro d
  induction d using Nat.strongRecOn with
  | ind d ih =>
    intro i x4 PI b p0 p1 hd hi hx hf hP hp
    have hsz : (strOfNums PI).size ≤ 2001 := by rw [strOfNums_size]; omega
    by_cases he : i = T.size
    · subst he
      cases b with
      | false =>
        refine ⟨([], false), ?_, Or.inl rfl⟩
        refine Ev.succ ?_
        simp only [spec_ReadName.l0]
        exact Ev.no (by omega) (Ev.yes (by omega) (Ev.call rfl (Ev.no (by decide) (Ev.now _))))
      | true =>
        have hf' : fits8 (x4 ++ [⟨p0, strOfNums PI⟩]) := fits8_snoc hf (by omega) hp hsz
        by_cases hn : (nameB (x4 ++ [⟨p0, strOfNums PI⟩])).toList = T.toList
        · refine ⟨(x4 ++ [⟨p0, strOfNums PI⟩], true), ?_, Or.inr ⟨rfl, hn⟩⟩
          refine Ev.succ ?_
          simp only [spec_ReadName.l0]
          exact Ev.no (by omega) (Ev.yes (by omega) (Ev.call rfl (Ev.yes trivial ((spec_NameText_8 hf').bind (Ev.yes hn (Ev.now _))))))
        · refine ⟨([], false), ?_, Or.inl rfl⟩
          refine Ev.succ ?_
          simp only [spec_ReadName.l0]
          exact Ev.no (by omega) (Ev.yes (by omega) (Ev.call rfl (Ev.yes trivial ((spec_NameText_8 hf').bind (Ev.no hn (Ev.now _))))))
    · have hlt : i < T.size := by omega
      obtain ⟨d', rfl⟩ : ∃ d', d = d' + 1 := ⟨d - 1, by omega⟩
      generalize hc : bt T (i : Int) = c
      have app : ∃ r, Ev (fun k => spec_ReadName.j3 k T x4 PI b (i : Int) c false p0 p1) r ∧ Out T r := by
        obtain ⟨r, hr, ho⟩ := ih d' (by omega) (i + 1) x4 (PI ++ [c]) b p0 p1 (by omega) (by omega) (by omega) hf (by rw [List.length_append]; simp; omega) hp
        refine ⟨r, ?_, ho⟩
        refine Ev.succ ?_
        simp only [spec_ReadName.j3]
        rw [wrap_nat (i := i) (by omega)]
        exact Ev.no (by decide) (Ev.yes (by omega) hr)
      cases b with
      | false =>
        by_cases h61 : c = 61
        · obtain ⟨r, hr, ho⟩ := ih d' (by omega) (i + 1) x4 [] true (strOfNums PI) p1 (by omega) (by omega) (by omega) hf (by simp) hsz
          refine ⟨r, ?_, ho⟩
          refine Ev.succ ?_
          simp only [spec_ReadName.l0]
          rw [hc, show (c == 61) = true from beq_iff_eq.2 h61]
          refine Ev.yes (by omega) (Ev.yes (by omega) (Ev.no (by decide) ?_))
          refine Ev.succ ?_
          simp only [spec_ReadName.j1]
          rw [wrap_nat (i := i) (by omega)]
          exact Ev.yes trivial hr
        · obtain ⟨r, hr, ho⟩ := app
          refine ⟨r, ?_, ho⟩
          refine Ev.succ ?_
          simp only [spec_ReadName.l0]
          rw [hc, show (c == 61) = false from beq_eq_false_iff_ne.2 h61]
          refine Ev.yes (by omega) (Ev.yes (by omega) (Ev.no (by decide) ?_))
          refine Ev.succ ?_
          simp only [spec_ReadName.j1]
          refine Ev.no (by decide) (Ev.no (by decide) ?_)
          refine Ev.succ ?_
          simp only [spec_ReadName.j2]
          exact Ev.no (by decide) (Ev.no (by decide) hr)
      | true =>
        have J : ∀ r, Ev (fun k => spec_ReadName.j2 k T x4 PI true (i : Int) c (c == 44) p0 p1) r → Ev (fun k => spec_ReadName.l0 k T x4 PI true (i : Int) p0 p1) r := by
          intro r hr
          refine Ev.succ ?_
          simp only [spec_ReadName.l0]
          rw [hc]
          refine Ev.yes (by omega) (Ev.yes (by omega) (Ev.yes trivial ?_))
          refine Ev.succ ?_
          simp only [spec_ReadName.j1]
          exact Ev.no (by decide) (Ev.yes trivial hr)
        by_cases h44 : c = 44
        · obtain ⟨r, hr, ho⟩ := ih d' (by omega) (i + 1) (x4 ++ [⟨p0, strOfNums PI⟩]) [] false p0 (strOfNums PI) (by omega) (by omega) (by rw [List.length_append]; simp; omega) (fits8_snoc hf (by omega) hp hsz) (by simp) hp
          refine ⟨r, J r ?_, ho⟩
          rw [show (c == 44) = true from beq_iff_eq.2 h44]
          refine Ev.succ ?_
          simp only [spec_ReadName.j2]
          rw [wrap_nat (i := i) (by omega)]
          exact Ev.yes trivial (Ev.yes (by omega) hr)
        · have J2 : ∀ r, Ev (fun k => spec_ReadName.j3 k T x4 PI true (i : Int) c (c == 92) p0 p1) r → Ev (fun k => spec_ReadName.l0 k T x4 PI true (i : Int) p0 p1) r := by
            intro r hr
            refine J r ?_
            rw [show (c == 44) = false from beq_eq_false_iff_ne.2 h44]
            refine Ev.succ ?_
            simp only [spec_ReadName.j2]
            exact Ev.no (by decide) (Ev.yes trivial hr)
          by_cases h92 : c = 92
          · by_cases hend : i + 1 = T.size
            · refine ⟨([], false), J2 _ ?_, Or.inl rfl⟩
              rw [show (c == 92) = true from beq_iff_eq.2 h92]
              refine Ev.succ ?_
              simp only [spec_ReadName.j3]
              rw [wrap_nat (i := i) (by omega)]
              exact Ev.yes trivial (Ev.yes (by omega) (Ev.now _))
            · obtain ⟨r, hr, ho⟩ := ih (d' - 1) (by omega) (i + 2) x4 (PI ++ [bt T ((i + 1 : Nat) : Int)]) true p0 p1 (by omega) (by omega) (by omega) hf (by rw [List.length_append]; simp; omega) hp
              refine ⟨r, J2 _ ?_, ho⟩
              rw [show (c == 92) = true from beq_iff_eq.2 h92]
              refine Ev.succ ?_
              simp only [spec_ReadName.j3]
              rw [wrap_nat (i := i) (by omega), wrap_nat (i := i + 1) (by omega)]
              exact Ev.yes trivial (Ev.no (by omega) (Ev.yes (by omega) (Ev.yes (by omega) (Ev.yes (by omega) hr))))
          · obtain ⟨r, hr, ho⟩ := app
            refine ⟨r, J2 r ?_, ho⟩
            rw [show (c == 92) = false from beq_eq_false_iff_ne.2 h92]
            exact hr
theorem i_tail (hT : T.toList ≠ []) (n : Nat) (ih : ∀ (R : ByteArray) (x4 : List Pt), R.size < n → x4.length + R.size ≤ 2000 → fits8 x4 → ∃ r, Ev (fun k => impl_ReadName.l0 k T x4 R true) r ∧ Out T r) (R t a : ByteArray) (x4 : List Pt) (ht : t.size < n) (hx : x4.length + t.size ≤ 1999) (hf : fits8 x4) (ha : a.size ≤ 2001) :
    ∀ (d i : Nat) (p : ByteArray), t.size ≤ i + d → i ≤ t.size → p.size ≤ i → ∃ r, Ev (fun k => impl_ReadName.l1 k T x4 R false t (i : Int) a p) r ∧ Out T r := by
  intro d
  induction d using Nat.strongRecOn with
  | ind d ihd =>
    intro i p hd hi hp
    by_cases he : i = t.size
    · subst he
      have hf' : fits8 (x4 ++ [⟨a, p⟩]) := fits8_snoc hf (by omega) ha (by show p.size ≤ 2001; omega)
      by_cases hn : (nameB (x4 ++ [⟨a, p⟩])).toList = T.toList
      · refine ⟨(x4 ++ [⟨a, p⟩], true), ?_, Or.inr ⟨rfl, hn⟩⟩
        refine Ev.succ ?_
        simp only [impl_ReadName.l1]
        exact Ev.no (by omega) (Ev.yes (by omega) (Ev.call rfl (Ev.no (by decide) (i_fin T hT hf' (fun _ => rfl) (fun q => absurd hn q)))))
      · refine ⟨([], false), ?_, Or.inl rfl⟩
        refine Ev.succ ?_
        simp only [impl_ReadName.l1]
        exact Ev.no (by omega) (Ev.yes (by omega) (Ev.call rfl (Ev.no (by decide) (i_fin T hT hf' (fun q => absurd q hn) (fun _ => rfl)))))
    · have hlt : i < t.size := by omega
      obtain ⟨d', rfl⟩ : ∃ d', d = d' + 1 := ⟨d - 1, by omega⟩
      have xs : ∀ j, (t.extract j (j + 1)).size ≤ 1 := by
        intro j
        rw [← data_length, Lib.extract_data, List.length_take]; omega
      by_cases h44 : bt t (i : Int) = 44
      · have hR : (t.extract (i + 1) t.size).size ≤ t.size - (i + 1) := by rw [← data_length, Lib.extract_data, List.length_take, List.length_drop, data_length]; omega
        obtain ⟨r, hr, ho⟩ := ih (t.extract (i + 1) t.size) (x4 ++ [⟨a, p⟩]) (by omega) (by rw [List.length_append]; simp; omega) (fits8_snoc hf (by omega) ha (by show p.size ≤ 2001; omega))
        refine ⟨r, ?_, ho⟩
        refine Ev.succ ?_
        simp only [impl_ReadName.l1]
        rw [wrap_nat (i := i) (by omega), Int.toNat_natCast]
        exact Ev.yes (by omega) (Ev.yes (by omega) (Ev.yes h44 (Ev.yes (by omega) (Ev.yes (by omega) (Ev.yes (by omega) hr)))))
      · by_cases h92 : bt t (i : Int) = 92
        · by_cases hend : i + 1 = t.size
          · refine ⟨([], false), ?_, Or.inl rfl⟩
            refine Ev.succ ?_
            simp only [impl_ReadName.l1]
            rw [wrap_nat (i := i) (by omega)]
            exact Ev.yes (by omega) (Ev.yes (by omega) (Ev.no h44 (Ev.yes h92 (Ev.yes (by omega) (Ev.now _)))))
          · have := xs (i + 1)
            obtain ⟨r, hr, ho⟩ := ihd (d' - 1) (by omega) (i + 2) (p ++ t.extract (i + 1) (i + 1 + 1)) (by omega) (by omega) (by rw [ByteArray.size_append]; omega)
            refine ⟨r, ?_, ho⟩
            refine Ev.succ ?_
            simp only [impl_ReadName.l1]
            rw [wrap_nat (i := i) (by omega), wrap_nat (i := i + 1) (by omega), Int.toNat_natCast, Int.toNat_natCast]
            exact Ev.yes (by omega) (Ev.yes (by omega) (Ev.no h44 (Ev.yes h92 (Ev.no (by omega) (Ev.yes (by omega) (Ev.yes (by omega) (Ev.yes (by omega) (Ev.yes (by omega) hr))))))))
        · have := xs i
          obtain ⟨r, hr, ho⟩ := ihd d' (by omega) (i + 1) (p ++ t.extract i (i + 1)) (by omega) (by omega) (by rw [ByteArray.size_append]; omega)
          refine ⟨r, ?_, ho⟩
          refine Ev.succ ?_
          simp only [impl_ReadName.l1]
          rw [wrap_nat (i := i) (by omega), Int.toNat_natCast, Int.toNat_natCast]
          exact Ev.yes (by omega) (Ev.yes (by omega) (Ev.no h44 (Ev.no h92 (Ev.yes (by omega) (Ev.yes (by omega) (Ev.yes (by omega) hr))))))
theorem i_total (hT : T.toList ≠ []) : ∀ (n : Nat) (R : ByteArray) (x4 : List Pt), R.size < n → x4.length + R.size ≤ 2000 → fits8 x4 → ∃ r, Ev (fun k => impl_ReadName.l0 k T x4 R true) r ∧ Out T r := by
  intro n
  induction n with
  | zero => intro R x4 h; exact absurd h (Nat.not_lt_zero _)
  | succ n ih =>
    intro R x4 h hx hf
    obtain ⟨a, t, ok, hc, ha, ht⟩ := cut_any R (by omega)
    cases ok with
    | false =>
      refine ⟨([], false), ?_, Or.inl rfl⟩
      refine Ev.succ ?_
      simp only [impl_ReadName.l0]
      exact Ev.yes trivial (Ev.call hc (Ev.no (by simp) (Ev.now _)))
    | true =>
      have := ht rfl
      obtain ⟨r, hr, ho⟩ := i_tail T hT n ih R t a x4 (by omega) (by omega) hf (by omega) t.size 0 ⟨#[]⟩ (by omega) (by omega) (Nat.le_refl _)
      refine ⟨r, ?_, ho⟩
      refine Ev.succ ?_
      simp only [impl_ReadName.l0]
      exact Ev.yes trivial (Ev.call hc (Ev.yes rfl hr))
end
theorem out_none {T : ByteArray} {r : List Pt × Bool} (hT : T.toList ≠ []) (ho : Out T r) (hn : ¬ ∃ x rest, goodDirName (x :: rest) = true ∧ (nameB (x :: rest)).toList = T.toList) : r = ([], false) := by
  rcases ho with h | ⟨_, h2⟩
  · exact h
  · exfalso
    obtain ⟨l, b⟩ := r
    simp only at h2
    by_cases g : goodDirName l = true
    · cases l with
      | nil => exact hT (by rw [← h2]; unfold nameB; rw [if_pos g]; exact emptyL)
      | cons x rest => exact hn ⟨x, rest, g, h2⟩
    · exact hT (by rw [← h2]; unfold nameB; rw [if_neg g]; exact emptyL)
theorem read_same (T : ByteArray) : ∃ r, Ev (fun k => spec_ReadName.f k T) r ∧ Ev (fun k => impl_ReadName.f k T) r ∧ r.1.length ≤ 2001 := by
  unfold spec_ReadName.f impl_ReadName.f
  by_cases h0 : T.toList = ([] : List UInt8)
  · exact ⟨([], true), Ev.yes h0 (Ev.now _), Ev.yes h0 (Ev.now _), Nat.zero_le _⟩
  by_cases h1 : (T.size : Int) > 2000
  · exact ⟨([], false), Ev.no h0 (Ev.yes h1 (Ev.now _)), Ev.no h0 (Ev.yes h1 (Ev.now _)), Nat.zero_le _⟩
  have hs : T.size ≤ 2000 := by omega
  have f0 : fits8 [] := ⟨by simp, fun x hx => absurd hx (by simp)⟩
  by_cases hex : ∃ x rest, goodDirName (x :: rest) = true ∧ (nameB (x :: rest)).toList = T.toList
  · obtain ⟨x, rest, g, hn⟩ := hex
    have q := good_sizes g
    have hl : rest.length ≤ 7 := by have := q.1; simp at this; omega
    have hg : ∀ y ∈ x :: rest, goodName y.f0 = true ∧ y.f0.size ≤ 30 ∧ y.f1.size ≤ 60 := by
      intro y hy
      have h2 := g
      unfold goodDirName at h2
      simp only [Bool.and_eq_true, List.all_eq_true] at h2
      have h3 := h2.2 y hy
      unfold goodPart at h3
      simp only [Bool.and_eq_true] at h3
      exact ⟨h3.1, q.2 y hy⟩
    have hf : fits8 ([] ++ x :: rest) := ⟨by simp; omega, fun y hy => by have := q.2 y hy; omega⟩
    have hd : T.data.toList = nameU x ++ tailU rest := by
      have h2 := hn
      unfold nameB at h2
      rw [if_pos g, Lib.toList_data, Lib.toList_data, outB_U] at h2
      exact h2.symm
    refine ⟨([] ++ x :: rest, true), Ev.no h0 (Ev.no h1 ?_), Ev.no h0 (Ev.no h1 ?_), by simp; omega⟩
    · exact s_name T hs rest x [] 0 _ _ (by rw [List.drop_zero]; exact hd) hg hf (by simp; omega) hn
    · exact i_name T h0 rest x [] T hd hs hg hf (by simp; omega) hn
  · obtain ⟨r1, e1, o1⟩ := s_total T hs T.size 0 [] [] false ⟨#[]⟩ ⟨#[]⟩ (by omega) (by omega) (by simp) f0 (by simp) (Nat.zero_le _)
    obtain ⟨r2, e2, o2⟩ := i_total T h0 (T.size + 1) T [] (by omega) (by simp; omega) f0
    rw [out_none h0 o1 hex] at e1
    rw [out_none h0 o2 hex] at e2
    exact ⟨([], false), Ev.no h0 (Ev.no h1 e1), Ev.no h0 (Ev.no h1 e2), Nat.zero_le _⟩
/-! ### marks -/
def mtL : Nat → Nat → ByteArray → ByteArray
  | 0, _, s => s
  | f + 1, n, s => if n = 0 then ⟨#[109]⟩ ++ s else mtL f (n / 10) (strOfNums [(wrap64 (48 + (Int.tmod (n : Int) 10))) % 256] ++ s)
def mt (n : Nat) : ByteArray := mtL (n + 1) n ⟨#[]⟩
theorem markText_l0 : ∀ (f n : Nat) (s : ByteArray), n < f → s.size + n ≤ 1000000000 → Ev (fun k => laws_markText.l0 k (n : Int) s) (mtL f n s)
  | 0, n, s, h, _ => absurd h (Nat.not_lt_zero _)
  | f + 1, n, s, h, hs => by
    refine Ev.succ ?_
    simp only [laws_markText.l0]
    unfold mtL
    have e1 : (strOfNums [(wrap64 (48 + (Int.tmod (n : Int) 10))) % 256]).size = 1 := by rw [strOfNums_size]; rfl
    by_cases hn : n = 0
    · rw [if_pos hn]
      exact Ev.no (by omega) (Ev.yes (by omega) (Ev.now _))
    · rw [if_neg hn]
      have hq : wrap64 (Int.tdiv (n : Int) 10) = ((n / 10 : Nat) : Int) := by
        have : Int.tdiv (n : Int) 10 = ((n / 10 : Nat) : Int) := by rw [Int.tdiv_eq_ediv_of_nonneg (by omega)]; omega
        rw [this, wrap_id (by omega) (by omega)]
      rw [hq]
      refine Ev.yes (by omega) (Ev.call rfl (Ev.yes (by rw [e1]; omega) ?_))
      exact markText_l0 f (n / 10) _ (by omega) (by rw [ByteArray.size_append, e1]; omega)
theorem markText_ev (n : Nat) (h : 1 ≤ n) (h2 : n ≤ 900000000) : Ev (fun k => laws_markText.f k (n : Int)) (mt n) := by
  unfold laws_markText.f mt
  exact Ev.no (by omega) (markText_l0 (n + 1) n ⟨#[]⟩ (by omega) (by show 0 + n ≤ _; omega))
theorem rd_pt (l : List Pt) (i : Nat) (h : i < l.length) : rd_T93 l (i : Int) = l[i] := by
  unfold rd_T93; rw [Int.toNat_natCast, List.getD_eq_getElem?_getD, List.getElem?_eq_getElem h]; rfl
theorem rd_pt_set (l : List Pt) (i : Nat) (v : Pt) (h : i < l.length) : rd_T93 (l.set i v) (i : Int) = v := by
  rw [rd_pt _ i (by rw [List.length_set]; exact h), List.getElem_set_self]
def ptm (m n : Nat) : List Pt := (List.range n).map fun i => ⟨mt (m + 2 * i), mt (m + 2 * i + 1)⟩
theorem ptm_len (m n : Nat) : (ptm m n).length = n := by simp [ptm]
theorem ptm_get (m n i : Nat) (h : i < n) : (ptm m n)[i]'(by rw [ptm_len]; exact h) = ⟨mt (m + 2 * i), mt (m + 2 * i + 1)⟩ := by simp [ptm]
theorem markPartS_ev (l : List Pt) (m : Nat) (hm : 1 ≤ m) (hm2 : m ≤ 9000000) (hl : l.length ≤ 1048576) : Ev (fun k => laws_markPartS.f k l (m : Int)) (((m + 2 * l.length : Nat) : Int), ptm m l.length) := by
  unfold laws_markPartS.f
  have H : ∀ (d i : Nat), l.length = i + d → Ev (fun k => laws_markPartS.l0 k ((ptm m l.length).take i ++ l.drop i) ((m + 2 * i : Nat) : Int) (i : Int)) (((m + 2 * l.length : Nat) : Int), ptm m l.length) := by
    intro d
    induction d with
    | zero =>
      intro i h
      refine Ev.succ ?_
      simp only [laws_markPartS.l0]
      refine Ev.no (by simp [ptm_len]; omega) (Ev.some ?_)
      obtain rfl : i = l.length := by omega
      rw [List.drop_length, List.append_nil, List.take_of_length_le (by rw [ptm_len]; exact Nat.le_refl _)]
    | succ d ih =>
      intro i h
      have z := ih (i + 1) (by omega)
      have hlen : i < ((ptm m l.length).take i ++ l.drop i).length := by simp [ptm_len]; omega
      have e1 : ∀ v, ((ptm m l.length).take i ++ l.drop i).set i v = (ptm m l.length).take i ++ v :: l.drop (i + 1) := by
        intro v
        rw [List.set_append_right _ _ (by simp [ptm_len]; omega), show i - ((ptm m l.length).take i).length = 0 by simp [ptm_len]; omega]
        rw [List.drop_eq_getElem_cons (show i < l.length by omega), List.set_cons_zero]
      have e2 : (ptm m l.length).take (i + 1) ++ l.drop (i + 1) = (ptm m l.length).take i ++ (⟨mt (m + 2 * i), mt (m + 2 * i + 1)⟩ : Pt) :: l.drop (i + 1) := by
        rw [List.take_succ_eq_append_getElem (by rw [ptm_len]; omega), ptm_get _ _ _ (by omega), List.append_assoc]; rfl
      rw [e2, show m + 2 * (i + 1) = m + 2 * i + 1 + 1 by omega] at z
      refine Ev.succ ?_
      simp only [laws_markPartS.l0]
      refine Ev.yes (by simp [ptm_len]; omega) ((markText_ev (m + 2 * i) (by omega) (by omega)).bind (Ev.yes (by omega) (Ev.call rfl ?_)))
      rw [Int.toNat_natCast, wrap_nat (show m + 2 * i < 9000000000000000000 by omega), wrap_nat (show m + 2 * i + 1 < 9000000000000000000 by omega), wrap_nat (show i < 9000000000000000000 by omega)]
      refine (markText_ev (m + 2 * i + 1) (by omega) (by omega)).bind ?_
      rw [rd_pt_set _ i _ hlen, List.set_set, e1]
      exact z
  exact H l.length 0 (by omega)
theorem heldPartS_ev (m n : Nat) (hm : 1 ≤ m) (hm2 : m ≤ 9000000) (hl : n ≤ 1048576) : Ev (fun k => laws_heldPartS.f k (ptm m n) (m : Int)) ((m + 2 * n : Nat) : Int) := by
  unfold laws_heldPartS.f
  have H : ∀ (d i : Nat), n = i + d → Ev (fun k => laws_heldPartS.l0 k (ptm m n) ((m + 2 * i : Nat) : Int) (i : Int)) ((m + 2 * n : Nat) : Int) := by
    intro d
    induction d with
    | zero =>
      intro i h
      obtain rfl : i = n := by omega
      refine Ev.succ ?_
      simp only [laws_heldPartS.l0]
      exact Ev.no (by rw [ptm_len]; omega) (Ev.now _)
    | succ d ih =>
      intro i h
      have z := ih (i + 1) (by omega)
      rw [show m + 2 * (i + 1) = m + 2 * i + 1 + 1 by omega] at z
      refine Ev.succ ?_
      simp only [laws_heldPartS.l0]
      rw [rd_pt _ i (by rw [ptm_len]; omega), ptm_get m n i (by omega)]
      rw [wrap_nat (show m + 2 * i < 9000000000000000000 by omega), wrap_nat (show m + 2 * i + 1 < 9000000000000000000 by omega), wrap_nat (show i < 9000000000000000000 by omega)]
      exact Ev.yes (by rw [ptm_len]; omega) (Ev.yes (by omega) ((markText_ev (m + 2 * i) (by omega) (by omega)).bind (Ev.yes rfl ((markText_ev (m + 2 * i + 1) (by omega) (by omega)).bind (Ev.yes rfl z)))))
  exact H n 0 (by omega)
theorem FnExactReadName : laws_FnExactReadName.Pure := by
  intro T _
  apply Ev.rounds
  unfold laws_FnExactReadName.f
  refine Ev.ite (fun _ => Ev.now _) fun _ => ?_
  obtain ⟨r, S, I, hl⟩ := read_same T
  have R := eqPartS_self r.1 (by omega)
  refine S.bind (I.bind (R.bind (Ev.yes rfl ?_)))
  refine Ev.succ ?_
  simp only [laws_FnExactReadName.j0]
  have H := heldPartS_ev 1 r.1.length (by omega) (by omega) (by omega)
  refine Ev.no (by simp) ((markPartS_ev r.1 1 (by omega) (by omega) (by omega)).bind (H.bind (Ev.no (by omega) (Ev.yes rfl (I.bind (R.bind (Ev.yes rfl ?_)))))))
  refine Ev.succ ?_
  simp only [laws_FnExactReadName.j1]
  exact Ev.no (by simp) (H.bind (Ev.no (by omega) (Ev.yes rfl (Ev.now _))))

end Go.Proofs.Ytcgiegkcmofhhab.Pure
