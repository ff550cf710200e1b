/- The program's Missing answers what the reference's answers, for every log and every vector; it hands back memory of its own.
Conditions: none but the row's own. -/
import Derived.Test.YtcgiegkcmofhhabFitFnExactMissing
namespace Go.Proofs.Ytcgiegkcmofhhab.Pure
open Go.RowKit Go.Proofs.Ytcgiegkcmofhhab.PFnExactMissing Go.Proofs.YtcgiegkcmofhhabW.PrintWords Go.Proofs.YtcgiegkcmofhhabW.PrintLast Go.Proofs.YtcgiegkcmofhhabOpen
set_option linter.unusedVariables false
set_option linter.unusedSimpArgs false

/-! ### words that a law's trimmed words lack (needed where the words were trimmed before this text was there) -/
theorem bt_range (s : ByteArray) (i : Int) : 0 ≤ bt s i ∧ bt s i ≤ 255 := by
  unfold bt
  split
  · rename_i h
    have := (s[i.toNat]'h).toNat_lt
    omega
  · omega
theorem data_length (s : ByteArray) : s.data.toList.length = s.size := by rw [Array.length_toList]; rfl
theorem bytesOf_length (s : ByteArray) : (bytesOf s).length = s.size := by rw [bytesOf, List.length_map, data_length]
theorem rd_bytesOf (s : ByteArray) (i : Int) : rd (bytesOf s) i = bt s i := by
  unfold rd bt bytesOf
  split
  · rename_i h
    have h' : i.toNat < s.data.toList.length := by rw [data_length]; exact h
    simp [List.getD_eq_getElem?_getD, List.getElem?_eq_getElem h']
    rfl
  · rename_i h
    have h' : s.data.toList.length ≤ i.toNat := by rw [data_length]; omega
    simp [List.getD_eq_getElem?_getD, List.getElem?_eq_none h']
/-! ### from some number of rounds on -/
theorem Ev.yes {α : Type} {c : Prop} {inst : Decidable c} {A B : Nat → Option α} {r : α} (h : c) (k : Ev A r) : Ev (fun n => @ite _ c inst (A n) (B n)) r :=
  k.congr fun n => if_pos h
theorem Ev.no {α : Type} {c : Prop} {inst : Decidable c} {A B : Nat → Option α} {r : α} (h : ¬ c) (k : Ev B r) : Ev (fun n => @ite _ c inst (A n) (B n)) r :=
  k.congr fun n => if_neg h
theorem Ev.ite {α : Type} {c : Prop} {inst : Decidable c} {A B : Nat → Option α} {r : α} (h : c → Ev A r) (k : ¬ c → Ev B r) : Ev (fun n => @ite _ c inst (A n) (B n)) r := by
  by_cases e : c
  · exact Ev.yes e (h e)
  · exact Ev.no e (k e)
theorem Ev.some {α : Type} {a r : α} (h : a = r) : Ev (fun _ => some a) r := h ▸ Ev.now a
/-- A callee without rounds. -/
theorem Ev.call {α β : Type} {g : Option α} {f : Nat → α → Option β} {a : α} {r : β} (h : g = Option.some a) (k : Ev (fun n => f n a) r) : Ev (fun n => g.bind (f n)) r := by
  refine k.congr fun n => ?_
  rw [h]; rfl
theorem Ev.tail {α : Type} {g : Nat → Option α} {r : α} (h : Ev g r) : Ev (fun n => (g n).bind fun t => Option.some t) r := h.bind (Ev.now r)
theorem Ev.succ {α : Type} {g : Nat → Option α} {r : α} (h : Ev (fun k => g (k + 1)) r) : Ev g r := Ev.step (fun _ => rfl) h
theorem wrap_nat {i : Nat} (h : i < 9000000000000000000) : wrap64 ((i : Int) + 1) = ((i + 1 : Nat) : Int) := by unfold wrap64; omega
theorem wrap_id {x : Int} (h0 : -9223372036854775808 ≤ x) (h1 : x ≤ 9223372036854775807) : wrap64 x = x := by unfold wrap64; omega
theorem bt_nat (s : ByteArray) (i : Nat) (h : i < s.size) : bt s (i : Int) = (bytesOf s)[i]'(by rw [bytesOf_length]; exact h) := by
  have := rd_bytesOf s (i : Int)
  rw [← this]; unfold rd; rw [Int.toNat_natCast, List.getD_eq_getElem?_getD, List.getElem?_eq_getElem (by rw [bytesOf_length]; exact h)]; rfl
theorem drop_bytes (s : ByteArray) (i : Nat) (h : i < s.size) : (bytesOf s).drop i = bt s (i : Int) :: (bytesOf s).drop (i + 1) := by
  rw [bt_nat s i h]; exact List.drop_eq_getElem_cons (by rw [bytesOf_length]; exact h)
theorem bytes_range (s : ByteArray) : ∀ b ∈ bytesOf s, 0 ≤ b ∧ b ≤ 255 := by
  intro b hb
  unfold bytesOf at hb
  obtain ⟨x, _, rfl⟩ := List.mem_map.1 hb
  have := x.toNat_lt
  omega
/-- A loop over a string that asks each byte. -/
theorem loop_all {l : Nat → Int → Option Bool} {p : Int → Bool} {s : ByteArray}
    (yes : ∀ i : Nat, i < s.size → p (bt s i) = true → ∀ r, Ev (fun k => l k ((i + 1 : Nat) : Int)) r → Ev (fun k => l k (i : Int)) r)
    (no : ∀ i : Nat, i < s.size → p (bt s i) = false → Ev (fun k => l k (i : Int)) false)
    (done : Ev (fun k => l k (s.size : Int)) true) :
    ∀ (d i : Nat), s.size = i + d → Ev (fun k => l k (i : Int)) (((bytesOf s).drop i).all p) := by
  intro d
  induction d with
  | zero =>
    intro i h
    obtain rfl : i = s.size := by omega
    rw [List.drop_eq_nil_of_le (by rw [bytesOf_length]; exact Nat.le_refl _)]
    exact done
  | succ d ih =>
    intro i h
    rw [drop_bytes s i (by omega), List.all_cons]
    cases hp : p (bt s i) with
    | true => rw [Bool.true_and]; exact yes i (by omega) hp _ (ih (i + 1) (by omega))
    | false => rw [Bool.false_and]; exact no i (by omega) hp
/-! ### good names -/
def pDigit (a : Int) : Bool := decide (48 ≤ a ∧ a ≤ 57)
def pLetter (a : Int) : Bool := decide (97 ≤ a ∧ a ≤ 122 ∨ 65 ≤ a ∧ a ≤ 90)
def pWord (a : Int) : Bool := pLetter a || pDigit a || decide (a = 95)
def goodName (s : ByteArray) : Bool := decide (1 ≤ s.size ∧ s.size ≤ 30) && !pDigit (bt s 0) && (bytesOf s).all pWord
theorem spec_l1Digit_eq (a : Int) : spec_l1Digit.f a = some (pDigit a) := by
  unfold spec_l1Digit.f pDigit; split <;> congr 1 <;> simp <;> omega
theorem spec_l1Letter_eq (a : Int) : spec_l1Letter.f a = some (pLetter a) := by
  unfold spec_l1Letter.f pLetter; repeat' split
  all_goals (congr 1; rw [eq_comm]; first | (apply decide_eq_true; omega) | (apply decide_eq_false; omega) | (apply decide_eq_decide.2; omega))
theorem impl_ydigit_eq (a : Int) : impl_ydigit.f a = some (pDigit a) := by
  unfold impl_ydigit.f pDigit; split <;> congr 1 <;> simp <;> omega
theorem impl_yletter_eq (a : Int) : impl_yletter.f a = some (pLetter a) := by
  unfold impl_yletter.f pLetter; repeat' split
  all_goals (congr 1; rw [eq_comm]; first | (apply decide_eq_true; omega) | (apply decide_eq_false; omega) | (apply decide_eq_decide.2; omega))
theorem impl_ywordByte_eq (a : Int) : impl_ywordByte.f a = some (pWord a) := by
  unfold impl_ywordByte.f pWord
  rw [impl_yletter_eq, Option.bind_some, impl_ydigit_eq, Option.bind_some]
  cases pLetter a <;> cases pDigit a <;> simp [BEq.beq]
theorem size_bytes_nil (s : ByteArray) : s.toList = ([] : List UInt8) ↔ s.size = 0 := by
  have h : s.toList = s.data.toList := ByteArray.toList_eq s
  rw [h]
  constructor
  · intro h; have := congrArg List.length h; simpa using this
  · intro h; apply List.eq_nil_of_length_eq_zero; simpa using h
theorem spec_GoodName_l0 (s : ByteArray) (hs : s.size ≤ 1048576) (i : Nat) (hi : i ≤ s.size) : Ev (fun k => spec_GoodName.l0 k s (i : Int)) (((bytesOf s).drop i).all pWord) := by
  refine loop_all (l := fun k i => spec_GoodName.l0 k s i) ?_ ?_ ?_ (s.size - i) i (by omega)
  · intro i h hp r hr
    refine Ev.step (fun _ => rfl) (Ev.yes (by omega) (Ev.yes (by omega) (Ev.call (spec_l1Letter_eq _) ?_)))
    rw [← wrap_nat (by omega)] at hr
    refine Ev.ite (fun _ => hr) fun h1 => Ev.call (spec_l1Digit_eq _) (Ev.ite (fun _ => hr) fun h2 => Ev.ite (fun _ => hr) fun h3 => ?_)
    exfalso
    unfold pWord at hp
    simp [h1, h2, h3] at hp
  · intro i h hp
    refine Ev.step (fun _ => rfl) (Ev.yes (by omega) (Ev.yes (by omega) (Ev.call (spec_l1Letter_eq _) ?_)))
    unfold pWord at hp
    simp only [Bool.or_eq_false_iff, decide_eq_false_iff_not] at hp
    refine Ev.no (by simp [hp.1.1]) (Ev.call (spec_l1Digit_eq _) (Ev.no (by simp [hp.1.2]) (Ev.no hp.2 (Ev.now _))))
  · exact Ev.step (fun _ => rfl) (Ev.no (by omega) (Ev.now _))
theorem spec_GoodName_ev (s : ByteArray) (hs : s.size ≤ 1048576) : Ev (fun k => spec_GoodName.f k s) (goodName s) := by
  unfold spec_GoodName.f goodName
  have H : Ev (fun k => spec_GoodName.l0 k s 0) ((bytesOf s).all pWord) := spec_GoodName_l0 s hs 0 (by omega)
  have hf : ∀ b : Bool, Ev (fun k => spec_GoodName.j0 k s b) (!b && (bytesOf s).all pWord) := by
    intro b
    cases b with
    | true => apply Ev.succ; simp only [spec_GoodName.j0, if_true, Bool.not_true, Bool.false_and]; exact Ev.now _
    | false => apply Ev.succ; simp only [spec_GoodName.j0, Bool.false_eq_true, if_false, Bool.not_false, Bool.true_and]; exact H
  refine Ev.ite (fun h => ?_) fun h => Ev.ite (fun h' => ?_) fun h' => Ev.yes (by omega) (Ev.call (spec_l1Digit_eq _) ?_)
  · rw [decide_eq_false (by omega)]; exact hf true
  · rw [decide_eq_false (by omega)]; exact hf true
  · rw [decide_eq_true (by omega), Bool.true_and]; exact hf _
theorem impl_GoodName_l0 (s : ByteArray) (hs : s.size ≤ 1048576) (i : Nat) (hi : i ≤ s.size) : Ev (fun k => impl_GoodName.l0 k s (s.size : Int) (i : Int)) (((bytesOf s).drop i).all pWord) := by
  refine loop_all (l := fun k i => impl_GoodName.l0 k s (s.size : Int) i) ?_ ?_ ?_ (s.size - i) i (by omega)
  · intro i h hp r hr
    rw [← wrap_nat (by omega)] at hr
    exact Ev.step (fun _ => rfl) (Ev.yes (by omega) (Ev.yes (by omega) (Ev.yes (by omega) (Ev.call (impl_ywordByte_eq _) (Ev.yes hp hr)))))
  · intro i h hp
    exact Ev.step (fun _ => rfl) (Ev.yes (by omega) (Ev.yes (by omega) (Ev.yes (by omega) (Ev.call (impl_ywordByte_eq _) (Ev.no (by simp [hp]) (Ev.now _))))))
  · exact Ev.step (fun _ => rfl) (Ev.no (by omega) (Ev.now _))
theorem impl_GoodName_ev (s : ByteArray) (hs : s.size ≤ 1048576) : Ev (fun k => impl_GoodName.f k s) (goodName s) := by
  unfold impl_GoodName.f goodName
  have H : Ev (fun k => impl_GoodName.l0 k s (s.size : Int) 0) ((bytesOf s).all pWord) := impl_GoodName_l0 s hs 0 (by omega)
  have hf : ∀ b : Bool, Ev (fun k => impl_GoodName.j0 k s b) (!b && (bytesOf s).all pWord) := by
    intro b
    cases b with
    | true => apply Ev.succ; simp only [impl_GoodName.j0, if_true, Bool.not_true, Bool.false_and]; exact Ev.now _
    | false => apply Ev.succ; simp only [impl_GoodName.j0, Bool.false_eq_true, if_false, Bool.not_false, Bool.true_and]; exact H
  refine Ev.ite (fun h => ?_) fun h => Ev.ite (fun h' => ?_) fun h' => ?_
  · rw [size_bytes_nil] at h; rw [decide_eq_false (by omega)]; exact hf true
  · rw [decide_eq_false (by omega)]; exact hf true
  · rw [size_bytes_nil] at h; rw [decide_eq_true (by omega), Bool.true_and]; exact Ev.yes (by omega) (Ev.call (impl_ydigit_eq _) (hf _))
/-! ### printed texts, empty texts -/
def emptyB (s : ByteArray) : Bool := decide (s.size = 0)
def pPrinted (b : Int) : Bool := decide (32 ≤ b ∧ b ≤ 126)
def printed (s : ByteArray) : Bool := (bytesOf s).all pPrinted
theorem nil_iff (s : ByteArray) : s.toList = ([] : List UInt8) ↔ emptyB s = true := by rw [size_bytes_nil]; simp [emptyB]
theorem nil_beq (s : ByteArray) : (s.toList == ([] : List UInt8)) = emptyB s := by
  rw [Bool.eq_iff_iff, beq_iff_eq, nil_iff]
theorem nil_bne (s : ByteArray) : (s.toList != ([] : List UInt8)) = !emptyB s := by
  rw [bne, nil_beq]
theorem spec_l1Printed_ev (s : ByteArray) (hs : s.size ≤ 1048576) : Ev (fun k => spec_l1Printed.f k s) (printed s) := by
  unfold spec_l1Printed.f printed
  refine loop_all (l := fun k i => spec_l1Printed.l0 k s i) (p := pPrinted) ?_ ?_ ?_ s.size 0 (by omega)
  · intro i h hp r hr
    have hp := of_decide_eq_true hp
    refine Ev.succ ?_
    simp only [spec_l1Printed.l0]
    rw [← wrap_nat (by omega)] at hr
    exact Ev.yes (by omega) (Ev.yes (by omega) (Ev.no (by omega) (Ev.no (by omega) hr)))
  · intro i h hp
    have hp := of_decide_eq_false hp
    refine Ev.succ ?_
    simp only [spec_l1Printed.l0]
    exact Ev.yes (by omega) (Ev.yes (by omega) (Ev.ite (fun _ => Ev.now _) fun h1 => Ev.ite (fun _ => Ev.now _) fun h2 => by omega))
  · refine Ev.succ ?_
    simp only [spec_l1Printed.l0]
    exact Ev.no (by omega) (Ev.now _)
theorem impl_yprinted_ev (s : ByteArray) (lo hi : Nat) (hs : s.size ≤ 1048576) : Ev (fun k => impl_yprinted.f k s (lo : Int) (hi : Int)) (decide (lo ≤ s.size ∧ s.size ≤ hi) && printed s) := by
  have hf : ∀ b : Bool, b = decide (¬ (lo ≤ s.size ∧ s.size ≤ hi)) → Ev (fun k => impl_yprinted.j0 k s b) (decide (lo ≤ s.size ∧ s.size ≤ hi) && printed s) := by
    intro b hb
    refine Ev.succ ?_
    simp only [impl_yprinted.j0]
    refine Ev.ite (fun h => ?_) fun h => ?_
    · rw [hb] at h
      rw [decide_eq_false (of_decide_eq_true h), Bool.false_and]; exact Ev.now _
    · have h' : lo ≤ s.size ∧ s.size ≤ hi := Classical.byContradiction fun z => h (by rw [hb]; exact decide_eq_true z)
      rw [decide_eq_true h', Bool.true_and]
      unfold printed
      refine loop_all (l := fun k i => impl_yprinted.l0 k s (s.size : Int) i) (p := pPrinted) ?_ ?_ ?_ s.size 0 (by omega)
      · intro i h hp r hr
        have hp := of_decide_eq_true hp
        refine Ev.succ ?_
        simp only [impl_yprinted.l0]
        rw [← wrap_nat (by omega)] at hr
        exact Ev.yes (by omega) (Ev.yes (by omega) (Ev.yes (by omega) (Ev.no (by omega) (Ev.no (by omega) hr))))
      · intro i h hp
        have hp := of_decide_eq_false hp
        refine Ev.succ ?_
        simp only [impl_yprinted.l0]
        exact Ev.yes (by omega) (Ev.yes (by omega) (Ev.yes (by omega) (Ev.ite (fun _ => Ev.now _) fun h1 => Ev.ite (fun _ => Ev.now _) fun h2 => by omega)))
      · refine Ev.succ ?_
        simp only [impl_yprinted.l0]
        exact Ev.no (by omega) (Ev.now _)
  unfold impl_yprinted.f
  refine Ev.ite (fun h => hf _ ?_) fun h => hf _ ?_
  · rw [decide_eq_true (by omega)]
  · rw [decide_eq_decide]; omega
/-! ### lists of numbers, and what the law's own functions do with bytes -/
theorem rd_nat (l : List Int) (i : Nat) (h : i < l.length) : rd l (i : Int) = l[i] := by
  unfold rd; rw [Int.toNat_natCast, List.getD_eq_getElem?_getD, List.getElem?_eq_getElem h]; rfl
theorem set_step {β : Type} (xs : List β) (z : β) (i : Nat) (h : i < xs.length) :
    (xs.take i ++ List.replicate (xs.length - i) z).set i xs[i] = xs.take (i + 1) ++ List.replicate (xs.length - (i + 1)) z := by
  obtain ⟨d, hd⟩ : ∃ d, xs.length - i = d + 1 := ⟨xs.length - i - 1, by omega⟩
  rw [hd, show xs.length - (i + 1) = d by omega, List.replicate_succ, List.set_append_right _ _ (by simp; omega)]
  rw [show i - (xs.take i).length = 0 by simp; omega, List.set_cons_zero, List.take_succ_eq_append_getElem h, List.append_assoc]; rfl
theorem fill_len {β : Type} (xs : List β) (z : β) (i : Nat) (h : i ≤ xs.length) : (xs.take i ++ List.replicate (xs.length - i) z).length = xs.length := by simp; omega
/-! ### a byte looked for -/
theorem indexByte_any (l : List UInt8) (c : UInt8) : decide (Lib.indexByte l c ≥ 0) = l.any (· == c) ∧ (-1 ≤ Lib.indexByte l c) := by
  induction l with
  | nil => exact ⟨rfl, by simp [Lib.indexByte]⟩
  | cons b l ih =>
    unfold Lib.indexByte
    rw [List.any_cons]
    by_cases h : (b == c) = true
    · rw [if_pos h, h]; exact ⟨rfl, by omega⟩
    · rw [if_neg h, Bool.eq_false_iff.2 h, Bool.false_or]
      by_cases h2 : (Lib.indexByte l c == -1) = true
      · rw [if_pos h2]
        rw [beq_iff_eq] at h2
        refine ⟨?_, by omega⟩
        rw [← ih.1, h2]
      · rw [if_neg h2]
        have h3 : Lib.indexByte l c ≠ -1 := fun z => h2 (beq_iff_eq.2 z)
        refine ⟨?_, by omega⟩
        rw [← ih.1, decide_eq_decide]
        omega
def hasByte (s : ByteArray) (c : Int) : Bool := (bytesOf s).any (· == c)
theorem hasByte_eq (s : ByteArray) (c : UInt8) : decide (Lib.indexByte s.data.toList c ≥ 0) = hasByte s (c.toNat : Int) := by
  rw [(indexByte_any _ _).1]
  unfold hasByte bytesOf
  rw [List.any_map]
  congr 1
  funext x
  simp only [Function.comp]
  rw [Bool.eq_iff_iff, beq_iff_eq, beq_iff_eq]
  exact ⟨fun h => by rw [h], fun h => UInt8.toNat_inj.1 (by omega)⟩
theorem strings_Contains_eq (s t : ByteArray) (h : t.size = 1) : strings_Contains.f s t = some (hasByte s (bt t 0)) := by
  unfold strings_Contains.f strings_Index.f stringslite_Index.f
  rw [if_pos h]
  simp only [Option.bind_some]
  rw [hasByte_eq]
  congr 2
  have h0 := bt_range t 0
  have h2 : (bt t 0).toNat < 256 := by omega
  rw [show (bt t 0).toNat.toUInt8.toNat = (bt t 0).toNat from Nat.mod_eq_of_lt h2]
  omega
/-! ### what is left of the law's measure -/
def szA (m a : Int) : Int := if m - a < 0 then -1 else m - a
theorem szA_neg {m a : Int} : ¬ szA m a < 0 ↔ a ≤ m := by unfold szA; split <;> omega
theorem szA_ok {m a : Int} (h : ¬ szA m a < 0) : szA m a = m - a ∧ a ≤ m := by
  unfold szA at *
  by_cases e : m - a < 0
  · rw [if_pos e] at h; omega
  · rw [if_neg e]; omega
/-! ### good changes -/
def partB (n : Nat) (a t : ByteArray) : Bool := goodName a && (decide (1 ≤ t.size ∧ t.size ≤ n) && printed t)
def changeCore (p v : Bool) (kd up : Int) (pa pt at_ tx : ByteArray) : Bool :=
  if kd = 1 then v && decide (0 ≤ up ∧ up ≤ 1000) && partB 50 pa pt && !hasByte pt 126
  else if kd = 2 ∨ kd = 3 then p && partB 200 at_ tx
  else if kd = 4 then p && v
  else false
def goodChange (tm who kd uid up : Int) (pa pt at_ tx : ByteArray) : Bool :=
  decide (1 ≤ tm ∧ tm ≤ 1000000000 ∧ 0 ≤ who ∧ who ≤ 99 ∧ 1 ≤ uid ∧ uid ≤ 1000) && changeCore (decide (up = 0) && (emptyB pa && emptyB pt)) (emptyB at_ && emptyB tx) kd up pa pt at_ tx
theorem spec_l4Tilde_ev (s : ByteArray) (hs : s.size ≤ 1048576) : Ev (fun k => spec_l4Tilde.f k s) (hasByte s 126) := by
  unfold spec_l4Tilde.f hasByte
  have H : ∀ (d i : Nat), s.size = i + d → Ev (fun k => spec_l4Tilde.l0 k s (i : Int)) (((bytesOf s).drop i).any (· == 126)) := by
    intro d
    induction d with
    | zero =>
      intro i h
      obtain rfl : i = s.size := by omega
      rw [List.drop_eq_nil_of_le (by rw [bytesOf_length]; exact Nat.le_refl _)]
      refine Ev.succ ?_
      simp only [spec_l4Tilde.l0]
      exact Ev.no (by omega) (Ev.now _)
    | succ d ih =>
      intro i h
      rw [drop_bytes s i (by omega), List.any_cons]
      refine Ev.succ ?_
      simp only [spec_l4Tilde.l0]
      refine Ev.yes (by omega) (Ev.yes (by omega) (Ev.ite (fun e => Ev.some ?_) fun e => ?_))
      · rw [beq_iff_eq.2 e]; rfl
      · rw [beq_eq_false_iff_ne.2 e, Bool.false_or, wrap_nat (by omega)]
        exact ih (i + 1) (by omega)
  exact H s.size 0 (by omega)
theorem part_spec (a t : ByteArray) (n : Nat) (ha : a.size ≤ 1048576) (ht : t.size ≤ 1048576) {z : Bool} {R : Nat → Option Bool} (h : Ev R z) :
    Ev (fun k => (spec_GoodName.f k a).bind fun u => if u = true then (if (t.size : Int) ≥ 1 then (if (t.size : Int) ≤ (n : Int) then ((spec_l1Printed.f k t).bind fun w => if w = true then R k else some false) else some false) else some false) else some false) (partB n a t && z) := by
  unfold partB
  refine (spec_GoodName_ev a ha).bind (Ev.ite (fun g => ?_) fun g => Ev.some (by rw [Bool.eq_false_iff.2 g]; rfl))
  rw [g, Bool.true_and]
  refine Ev.ite (fun h1 => Ev.ite (fun h2 => ?_) fun h2 => Ev.some ?_) fun h1 => Ev.some ?_
  · rw [decide_eq_true (by omega), Bool.true_and]
    refine (spec_l1Printed_ev t ht).bind (Ev.ite (fun g' => ?_) fun g' => Ev.some (by rw [Bool.eq_false_iff.2 g']; rfl))
    rw [g', Bool.true_and]; exact h
  · rw [decide_eq_false (by omega)]; rfl
  · rw [decide_eq_false (by omega)]; rfl
theorem spec_GoodChange_j2 (p v : Bool) (tm who kd uid up : Int) (pa pt at_ tx : ByteArray) (h1 : pa.size ≤ 1048576) (h2 : pt.size ≤ 1048576) (h3 : at_.size ≤ 1048576) (h4 : tx.size ≤ 1048576) :
    Ev (fun k => spec_GoodChange.j2 k p v tm who kd uid up pa pt at_ tx) (changeCore p v kd up pa pt at_ tx) := by
  have J : ∀ b : Bool, kd ≠ 1 → b = decide (kd = 2 ∨ kd = 3) → Ev (fun k => spec_GoodChange.j3 k p v kd b tm who kd uid up pa pt at_ tx) (changeCore p v kd up pa pt at_ tx) := by
    intro b hk hb
    refine Ev.succ ?_
    simp only [spec_GoodChange.j3]
    unfold changeCore
    rw [if_neg hk]
    refine Ev.ite (fun h => ?_) fun h => ?_
    · rw [hb] at h
      rw [if_pos (of_decide_eq_true h)]
      refine Ev.ite (fun hp => ?_) fun hp => Ev.some (by rw [Bool.eq_false_iff.2 hp]; rfl)
      rw [hp, Bool.true_and]
      unfold partB
      refine (spec_GoodName_ev at_ h3).bind (Ev.ite (fun g => ?_) fun g => Ev.some (by rw [Bool.eq_false_iff.2 g]; rfl))
      rw [g, Bool.true_and]
      refine Ev.ite (fun h1 => Ev.ite (fun h2 => ?_) fun h2 => Ev.some ?_) fun h1 => Ev.some ?_
      · rw [decide_eq_true (by omega), Bool.true_and]; exact Ev.tail (spec_l1Printed_ev tx h4)
      · rw [decide_eq_false (by omega)]; rfl
      · rw [decide_eq_false (by omega)]; rfl
    · have h' : ¬ (kd = 2 ∨ kd = 3) := fun z => h (by rw [hb]; exact decide_eq_true z)
      rw [if_neg h']
      refine Ev.ite (fun e => ?_) fun e => Ev.some (by rw [if_neg e])
      rw [if_pos e]
      refine Ev.ite (fun hp => Ev.some (by rw [hp]; rfl)) fun hp => Ev.some (by rw [Bool.eq_false_iff.2 hp]; rfl)
  refine Ev.succ ?_
  simp only [spec_GoodChange.j2]
  refine Ev.ite (fun e => ?_) fun e => Ev.ite (fun e2 => J _ e ?_) fun e2 => J _ e ?_
  · unfold changeCore
    rw [if_pos e]
    refine Ev.ite (fun hv => ?_) fun hv => Ev.some (by rw [Bool.eq_false_iff.2 hv]; rfl)
    rw [hv]
    refine Ev.ite (fun a => Ev.ite (fun b => ?_) fun b => Ev.some ?_) fun a => Ev.some ?_
    · rw [decide_eq_true (by omega), Bool.true_and, Bool.true_and]
      exact part_spec pa pt 50 h1 h2 ((spec_l4Tilde_ev pt h2).bind (Ev.now _))
    · rw [decide_eq_false (by omega)]; rfl
    · rw [decide_eq_false (by omega)]; rfl
  · rw [Bool.eq_iff_iff]; simp; omega
  · rw [Bool.eq_iff_iff]; simp; omega
theorem impl_GoodChange_j2 (p v : Bool) (tm who kd uid up : Int) (pa pt at_ tx : ByteArray) (h1 : pa.size ≤ 1048576) (h2 : pt.size ≤ 1048576) (h3 : at_.size ≤ 1048576) (h4 : tx.size ≤ 1048576) :
    Ev (fun k => impl_GoodChange.j2 k p v tm who kd uid up pa pt at_ tx) (changeCore p v kd up pa pt at_ tx) := by
  have J : ∀ b : Bool, kd ≠ 1 → b = decide (kd = 2 ∨ kd = 3) → Ev (fun k => impl_GoodChange.j3 k p v kd b tm who kd uid up pa pt at_ tx) (changeCore p v kd up pa pt at_ tx) := by
    intro b hk hb
    refine Ev.succ ?_
    simp only [impl_GoodChange.j3]
    unfold changeCore
    rw [if_neg hk]
    refine Ev.ite (fun h => ?_) fun h => ?_
    · rw [hb] at h
      rw [if_pos (of_decide_eq_true h)]
      refine Ev.ite (fun hp => ?_) fun hp => Ev.some (by rw [Bool.eq_false_iff.2 hp]; rfl)
      rw [hp, Bool.true_and]
      unfold partB
      refine (impl_GoodName_ev at_ h3).bind (Ev.ite (fun g => ?_) fun g => Ev.some (by rw [Bool.eq_false_iff.2 g]; rfl))
      rw [g, Bool.true_and]
      exact Ev.tail (impl_yprinted_ev tx 1 200 h4)
    · have h' : ¬ (kd = 2 ∨ kd = 3) := fun z => h (by rw [hb]; exact decide_eq_true z)
      rw [if_neg h']
      refine Ev.ite (fun e => ?_) fun e => Ev.some (by rw [if_neg e])
      rw [if_pos e]
      refine Ev.ite (fun hp => Ev.some (by rw [hp]; rfl)) fun hp => Ev.some (by rw [Bool.eq_false_iff.2 hp]; rfl)
  refine Ev.succ ?_
  simp only [impl_GoodChange.j2]
  refine Ev.ite (fun e => ?_) fun e => Ev.ite (fun e2 => J _ e ?_) fun e2 => J _ e ?_
  · unfold changeCore
    rw [if_pos e]
    refine Ev.ite (fun hv => ?_) fun hv => Ev.some (by rw [Bool.eq_false_iff.2 hv]; rfl)
    rw [hv]
    refine Ev.ite (fun a => Ev.ite (fun b => ?_) fun b => Ev.some ?_) fun a => Ev.some ?_
    · rw [decide_eq_true (by omega), Bool.true_and, Bool.true_and]
      have P : Ev (fun k => impl_ygoodPart.f k pa pt 50) (partB 50 pa pt) := by
        unfold impl_ygoodPart.f partB
        refine (impl_GoodName_ev pa h1).bind (Ev.ite (fun g => ?_) fun g => Ev.some (by rw [Bool.eq_false_iff.2 g]; rfl))
        rw [g, Bool.true_and]
        exact Ev.tail (impl_yprinted_ev pt 1 50 h2)
      refine P.bind (Ev.ite (fun g => ?_) fun g => Ev.some (by rw [Bool.eq_false_iff.2 g]; rfl))
      rw [g, Bool.true_and]
      exact Ev.call (strings_Contains_eq pt _ rfl) (Ev.now _)
    · rw [decide_eq_false (by omega)]; rfl
    · rw [decide_eq_false (by omega)]; rfl
  · rw [Bool.eq_iff_iff]; simp; omega
  · rw [Bool.eq_iff_iff]; simp; omega
theorem spec_GoodChange_ev (tm who kd uid up : Int) (pa pt at_ tx : ByteArray) (h1 : pa.size ≤ 1048576) (h2 : pt.size ≤ 1048576) (h3 : at_.size ≤ 1048576) (h4 : tx.size ≤ 1048576) :
    Ev (fun k => spec_GoodChange.f k tm who kd uid up pa pt at_ tx) (goodChange tm who kd uid up pa pt at_ tx) := by
  have J1 : ∀ p : Bool, Ev (fun k => spec_GoodChange.j1 k p tm who kd uid up pa pt at_ tx) (changeCore p (emptyB at_ && emptyB tx) kd up pa pt at_ tx) := by
    intro p
    refine Ev.succ ?_
    simp only [spec_GoodChange.j1]
    refine Ev.ite (fun h => ?_) fun h => ?_
    · rw [nil_iff] at h
      rw [nil_beq, h, Bool.true_and]; exact spec_GoodChange_j2 _ _ _ _ _ _ _ _ _ _ _ h1 h2 h3 h4
    · rw [nil_iff, Bool.not_eq_true] at h
      rw [h, Bool.false_and]; exact spec_GoodChange_j2 _ _ _ _ _ _ _ _ _ _ _ h1 h2 h3 h4
  have J0 : ∀ b : Bool, (b = true ↔ ¬ (1 ≤ tm ∧ tm ≤ 1000000000 ∧ 0 ≤ who ∧ who ≤ 99 ∧ 1 ≤ uid ∧ uid ≤ 1000)) → Ev (fun k => spec_GoodChange.j0 k b tm who kd uid up pa pt at_ tx) (goodChange tm who kd uid up pa pt at_ tx) := by
    intro b hb
    refine Ev.succ ?_
    simp only [spec_GoodChange.j0]
    unfold goodChange
    refine Ev.ite (fun h => Ev.some ?_) fun h => ?_
    · rw [decide_eq_false (hb.1 h)]; rfl
    · rw [decide_eq_true (Classical.byContradiction fun z => h (hb.2 z)), Bool.true_and]
      refine Ev.ite (fun e => ?_) fun e => ?_
      · rw [decide_eq_true e, Bool.true_and, nil_beq, nil_beq]; exact J1 _
      · rw [decide_eq_false e, Bool.false_and]; exact J1 _
  unfold spec_GoodChange.f
  refine Ev.ite (fun a => J0 true ⟨fun _ => by omega, fun _ => rfl⟩) fun a => ?_
  refine Ev.ite (fun a => J0 true ⟨fun _ => by omega, fun _ => rfl⟩) fun a => ?_
  refine Ev.ite (fun a => J0 true ⟨fun _ => by omega, fun _ => rfl⟩) fun a => ?_
  refine Ev.ite (fun a => J0 true ⟨fun _ => by omega, fun _ => rfl⟩) fun a => ?_
  refine Ev.ite (fun a => J0 true ⟨fun _ => by omega, fun _ => rfl⟩) fun a => J0 _ ?_
  rw [decide_eq_true_eq]; omega
theorem impl_GoodChange_ev (tm who kd uid up : Int) (pa pt at_ tx : ByteArray) (h1 : pa.size ≤ 1048576) (h2 : pt.size ≤ 1048576) (h3 : at_.size ≤ 1048576) (h4 : tx.size ≤ 1048576) :
    Ev (fun k => impl_GoodChange.f k tm who kd uid up pa pt at_ tx) (goodChange tm who kd uid up pa pt at_ tx) := by
  have J1 : ∀ p : Bool, Ev (fun k => impl_GoodChange.j1 k p tm who kd uid up pa pt at_ tx) (changeCore p (emptyB at_ && emptyB tx) kd up pa pt at_ tx) := by
    intro p
    refine Ev.succ ?_
    simp only [impl_GoodChange.j1]
    refine Ev.ite (fun h => ?_) fun h => ?_
    · rw [nil_iff] at h
      rw [nil_beq, h, Bool.true_and]; exact impl_GoodChange_j2 _ _ _ _ _ _ _ _ _ _ _ h1 h2 h3 h4
    · rw [nil_iff, Bool.not_eq_true] at h
      rw [h, Bool.false_and]; exact impl_GoodChange_j2 _ _ _ _ _ _ _ _ _ _ _ h1 h2 h3 h4
  have J0 : ∀ b : Bool, (b = true ↔ ¬ (1 ≤ tm ∧ tm ≤ 1000000000 ∧ 0 ≤ who ∧ who ≤ 99 ∧ 1 ≤ uid ∧ uid ≤ 1000)) → Ev (fun k => impl_GoodChange.j0 k b tm who kd uid up pa pt at_ tx) (goodChange tm who kd uid up pa pt at_ tx) := by
    intro b hb
    refine Ev.succ ?_
    simp only [impl_GoodChange.j0]
    unfold goodChange
    refine Ev.ite (fun h => Ev.some ?_) fun h => ?_
    · rw [decide_eq_false (hb.1 h)]; rfl
    · rw [decide_eq_true (Classical.byContradiction fun z => h (hb.2 z)), Bool.true_and]
      refine Ev.ite (fun e => ?_) fun e => ?_
      · rw [decide_eq_true e, Bool.true_and, nil_beq, nil_beq]; exact J1 _
      · rw [decide_eq_false e, Bool.false_and]; exact J1 _
  unfold impl_GoodChange.f
  refine Ev.ite (fun a => J0 true ⟨fun _ => by omega, fun _ => rfl⟩) fun a => ?_
  refine Ev.ite (fun a => J0 true ⟨fun _ => by omega, fun _ => rfl⟩) fun a => ?_
  refine Ev.ite (fun a => J0 true ⟨fun _ => by omega, fun _ => rfl⟩) fun a => ?_
  refine Ev.ite (fun a => J0 true ⟨fun _ => by omega, fun _ => rfl⟩) fun a => ?_
  refine Ev.ite (fun a => J0 true ⟨fun _ => by omega, fun _ => rfl⟩) fun a => J0 _ ?_
  rw [decide_eq_true_eq]; omega
theorem spec_l1CmpNum_eq (a b : Int) : spec_l1CmpNum.f a b = some (if a < b then -1 else if a > b then 1 else 0) := by
  unfold spec_l1CmpNum.f; split
  · rfl
  · split <;> rfl
def cmpI (a b : Int) : Int := if a < b then -1 else if a > b then 1 else 0
theorem cmp_Compare_int_eq (a b : Int) : cmp_Compare_int.f a b = some (cmpI a b) := by
  unfold cmp_Compare_int.f cmp_isNaN_int.f cmpI
  simp only [bne_self_eq_false, Option.bind_some, Bool.false_eq_true, if_false]
  split
  · rfl
  · split <;> rfl
/-- The first that is not 0. -/
def orL : List Int → Int
  | [] => 0
  | a :: l => if a = 0 then orL l else a
theorem cmp_Or_int_l0 (l : List Int) (hl : l.length ≤ 1048576) : ∀ (d i : Nat), l.length = i + d → Ev (fun k => cmp_Or_int.l0 k 0 l (l.length : Int) (i : Int)) (orL (l.drop i)) := by
  intro d
  induction d with
  | zero =>
    intro i h
    refine Ev.succ ?_
    simp only [cmp_Or_int.l0]
    rw [List.drop_eq_nil_of_le (by omega)]
    exact Ev.no (by omega) (Ev.now _)
  | succ d ih =>
    intro i h
    refine Ev.succ ?_
    simp only [cmp_Or_int.l0]
    refine Ev.yes (by omega) (Ev.yes (by omega) (Ev.yes (by omega) ?_))
    rw [rd_nat l i (by omega), List.drop_eq_getElem_cons (show i < l.length by omega)]
    unfold orL
    refine Ev.ite (fun e => ?_) fun e => Ev.some ?_
    · rw [if_pos e, wrap_nat (by omega)]; exact ih (i + 1) (by omega)
    · rw [if_neg e]
theorem cmp_Or_int_ev (l : List Int) (hl : l.length ≤ 1048576) : Ev (fun k => cmp_Or_int.f k l) (orL l) := by
  unfold cmp_Or_int.f
  exact cmp_Or_int_l0 l hl l.length 0 (by omega)
/-! ### the loops of the law's own functions, whatever the elements -/
theorem self_loop {L : Nat → Int → Option Bool} {n : Nat} (step : ∀ i : Nat, i < n → Ev (fun k => L k ((i + 1 : Nat) : Int)) true → Ev (fun k => L k (i : Int)) true) (done : Ev (fun k => L k (n : Int)) true) :
    ∀ (d i : Nat), n = i + d → Ev (fun k => L k (i : Int)) true := by
  intro d
  induction d with
  | zero => intro i h; obtain rfl : n = i := by omega
            exact done
  | succ d ih => intro i h; exact step i (by omega) (ih (i + 1) (by omega))
theorem to_loop {α β : Type} {L : Nat → List β → Int → Option (List β)} {l : List α} {g : α → β} {z : β}
    (step : ∀ (i : Nat) (h : i < l.length) (o : List β), o.length = l.length → ∀ r, Ev (fun k => L k (o.set i (g l[i])) ((i + 1 : Nat) : Int)) r → Ev (fun k => L k o (i : Int)) r)
    (done : ∀ o : List β, Ev (fun k => L k o (l.length : Int)) o) :
    ∀ (d i : Nat), l.length = i + d → Ev (fun k => L k ((l.map g).take i ++ List.replicate (l.length - i) z) (i : Int)) (l.map g) := by
  intro d
  induction d with
  | zero =>
    intro i h
    obtain rfl : i = l.length := by omega
    rw [Nat.sub_self, List.replicate_zero, List.append_nil, List.take_of_length_le (by simp)]
    exact done _
  | succ d ih =>
    intro i h
    refine step i (by omega) _ (by simp; omega) _ ?_
    have e := set_step (l.map g) z i (by simp; omega)
    simp only [List.length_map, List.getElem_map] at e
    rw [e]
    exact ih (i + 1) (by omega)
/-- What a measure tells: what is left, and that all it measured fits. -/
def SzTo (g : Nat → Option Int) (m : Int) (Q : Prop) : Prop := ∃ r, Ev g r ∧ r ≤ m ∧ (¬ r < 0 → Q)
theorem sz_loop {α : Type} {L : Nat → Int → Int → Option Int} {l : List α} {Q : α → Prop}
    (step : ∀ (i : Nat) (h : i < l.length) (m : Int), 0 ≤ m → m ≤ 1048576 → ∃ r, r ≤ m ∧ (¬ r < 0 → Q l[i]) ∧ (r < 0 → Ev (fun k => L k m (i : Int)) (-1)) ∧ (¬ r < 0 → ∀ s, Ev (fun k => L k r ((i + 1 : Nat) : Int)) s → Ev (fun k => L k m (i : Int)) s))
    (done : ∀ m : Int, Ev (fun k => L k m (l.length : Int)) m) :
    ∀ (d i : Nat) (m : Int), l.length = i + d → 0 ≤ m → m ≤ 1048576 → SzTo (fun k => L k m (i : Int)) m (∀ x ∈ l.drop i, Q x) := by
  intro d
  induction d with
  | zero =>
    intro i m h h0 h1
    obtain rfl : i = l.length := by omega
    exact ⟨m, done m, Int.le_refl _, fun _ x hx => by rw [List.drop_length] at hx; simp at hx⟩
  | succ d ih =>
    intro i m h h0 h1
    obtain ⟨r, hr, hq, hneg, hpos⟩ := step i (by omega) m h0 h1
    by_cases hz : r < 0
    · exact ⟨-1, hneg hz, by omega, fun h => absurd (by omega) h⟩
    · obtain ⟨s, hs, hle, hall⟩ := ih (i + 1) r (by omega) (by omega) (by omega)
      refine ⟨s, hpos hz s hs, by omega, fun hn x hx => ?_⟩
      rw [List.drop_eq_getElem_cons (show i < l.length by omega)] at hx
      rcases List.mem_cons.1 hx with rfl | hx
      · exact hq hz
      · exact hall hn x hx
/-! ### the first that is so -/
def findI {α : Type} (p : α → Bool) : List α → Int → Int
  | [], _ => -1
  | x :: l, i => if p x = true then i else findI p l (i + 1)
theorem findI_any {α : Type} (p : α → Bool) : ∀ (l : List α) (i : Int), 0 ≤ i → decide (findI p l i ≥ 0) = l.any p
  | [], i, _ => rfl
  | x :: l, i, h => by
    unfold findI
    rw [List.any_cons]
    cases hp : p x with
    | true => rw [if_pos rfl, Bool.true_or]; exact decide_eq_true h
    | false => rw [if_neg (by simp), Bool.false_or]; exact findI_any p l (i + 1) (by omega)
theorem find_loop {α : Type} {L : Nat → Int → Option Int} {l : List α} {p : α → Bool}
    (step : ∀ (i : Nat) (h : i < l.length), (p l[i] = true → Ev (fun k => L k (i : Int)) (i : Int)) ∧ (p l[i] = false → ∀ r, Ev (fun k => L k ((i + 1 : Nat) : Int)) r → Ev (fun k => L k (i : Int)) r))
    (done : Ev (fun k => L k (l.length : Int)) (-1)) : ∀ (d i : Nat), l.length = i + d → Ev (fun k => L k (i : Int)) (findI p (l.drop i) (i : Int)) := by
  intro d
  induction d with
  | zero =>
    intro i h
    obtain rfl : i = l.length := by omega
    rw [List.drop_length]; exact done
  | succ d ih =>
    intro i h
    rw [List.drop_eq_getElem_cons (show i < l.length by omega)]
    unfold findI
    obtain ⟨h1, h2⟩ := step i (by omega)
    cases hp : p l[i] with
    | true => rw [if_pos rfl]; exact h1 hp
    | false => rw [if_neg (by simp)]; exact h2 hp _ (ih (i + 1) (by omega))
/-- A loop over the places of a list that stops at the first that isn't so. -/
theorem all_loop {α : Type} {L : Nat → Int → Option Bool} {l : List α} {p : α → Bool} {z : Bool}
    (step : ∀ (i : Nat) (h : i < l.length), (p l[i] = false → Ev (fun k => L k (i : Int)) false) ∧ (p l[i] = true → ∀ r, Ev (fun k => L k ((i + 1 : Nat) : Int)) r → Ev (fun k => L k (i : Int)) r))
    (done : Ev (fun k => L k (l.length : Int)) z) : ∀ (d i : Nat), l.length = i + d → Ev (fun k => L k (i : Int)) ((l.drop i).all p && z) := by
  intro d
  induction d with
  | zero =>
    intro i h
    obtain rfl : i = l.length := by omega
    rw [List.drop_length, List.all_nil, Bool.true_and]; exact done
  | succ d ih =>
    intro i h
    rw [List.drop_eq_getElem_cons (show i < l.length by omega), List.all_cons]
    obtain ⟨h1, h2⟩ := step i (by omega)
    cases hp : p l[i] with
    | true => rw [Bool.true_and]; exact h2 hp _ (ih (i + 1) (by omega))
    | false => rw [Bool.false_and, Bool.false_and]; exact h1 hp
/-! ### each good, and each above the one before -/
def okAt {α : Type} (g : α → Bool) (c : α → α → Int) (z : α) (l : List α) (i : Nat) : Bool := g (l.getD i z) && (decide (i = 0) || decide (c (l.getD (i - 1) z) (l.getD i z) < 0))
def rising {α : Type} (g : α → Bool) (c : α → α → Int) (z : α) (l : List α) : Bool := (List.range l.length).all (okAt g c z l)
theorem rise_step {G : Nat → Option Bool} {C : Nat → Option Int} {R : Nat → Option Bool} {i n : Nat} {g : Bool} {c : Int} (hi : i < n) (hn : n ≤ 1048576) (hG : Ev G g) (hC : 0 < i → Ev C c) :
    ((g && (decide (i = 0) || decide (c < 0))) = false → Ev (fun k => (G k).bind fun t => if t = true then (if (i : Int) > 0 then (if 0 ≤ wrap64 ((i : Int) - 1) then (if wrap64 ((i : Int) - 1) < (n : Int) then ((C k).bind fun t => if t ≥ 0 then some false else R k) else none) else none) else R k) else some false) false) ∧
    ((g && (decide (i = 0) || decide (c < 0))) = true → ∀ r, Ev R r → Ev (fun k => (G k).bind fun t => if t = true then (if (i : Int) > 0 then (if 0 ≤ wrap64 ((i : Int) - 1) then (if wrap64 ((i : Int) - 1) < (n : Int) then ((C k).bind fun t => if t ≥ 0 then some false else R k) else none) else none) else R k) else some false) r) := by
  constructor
  · intro h
    refine hG.bind (Ev.ite (fun hg => ?_) fun _ => Ev.now _)
    rw [hg, Bool.true_and, Bool.or_eq_false_iff, decide_eq_false_iff_not, decide_eq_false_iff_not] at h
    rw [wrap_id (x := (i : Int) - 1) (by omega) (by omega)]
    exact Ev.yes (by omega) (Ev.yes (by omega) (Ev.yes (by omega) ((hC (by omega)).bind (Ev.yes (by omega) (Ev.now _)))))
  · intro h r hr
    simp only [Bool.and_eq_true, Bool.or_eq_true, decide_eq_true_eq] at h
    refine hG.bind (Ev.yes h.1 (Ev.ite (fun hp => ?_) fun _ => hr))
    rw [wrap_id (x := (i : Int) - 1) (by omega) (by omega)]
    exact Ev.yes (by omega) (Ev.yes (by omega) ((hC (by omega)).bind (Ev.no (by omega) hr)))
theorem rise_loop {α : Type} {L : Nat → Int → Option Bool} {l : List α} {g : α → Bool} {c : α → α → Int} {z : α} {r : Bool}
    (step : ∀ i : Nat, i < l.length → (okAt g c z l i = false → Ev (fun k => L k (i : Int)) false) ∧ (okAt g c z l i = true → ∀ r, Ev (fun k => L k ((i + 1 : Nat) : Int)) r → Ev (fun k => L k (i : Int)) r))
    (done : Ev (fun k => L k (l.length : Int)) r) : Ev (fun k => L k 0) (rising g c z l && r) := by
  have H := all_loop (L := L) (l := List.range l.length) (p := okAt g c z l) (z := r) (fun i h => by
    rw [List.getElem_range]
    exact step i (by simpa using h)) (by rw [List.length_range]; exact done) l.length 0 (by simp)
  exact H
theorem rising_at {α : Type} {g : α → Bool} {c : α → α → Int} {z : α} {l : List α} (h : rising g c z l = true) (i : Nat) (hi : i < l.length) : g (l.getD i z) = true ∧ (0 < i → c (l.getD (i - 1) z) (l.getD i z) < 0) := by
  have H := List.all_eq_true.1 h i (List.mem_range.2 hi)
  unfold okAt at H
  simp only [Bool.and_eq_true, Bool.or_eq_true, decide_eq_true_eq] at H
  exact ⟨H.1, fun hp => by rcases H.2 with e | e <;> omega⟩
theorem cast_pred {i : Nat} (h : 0 < i) (h1 : i ≤ 1048576) : wrap64 ((i : Int) - 1) = ((i - 1 : Nat) : Int) := by rw [wrap_id (by omega) (by omega)]; omega
/-! ### good logs -/
def cvDirChange (x : S91) : S95 := ⟨⟨x.f0.f0, x.f0.f1⟩, x.f1, x.f2, x.f3, ⟨x.f4.f0, x.f4.f1⟩, x.f5, x.f6⟩
theorem eqDirChange_self (y0 : Int) (y1 : Int) (y2 : Int) (y3 : Int) (y4 : Int) (y5 : ByteArray) (y6 : ByteArray) (y7 : ByteArray) (y8 : ByteArray) : laws_eqDirChange.f y0 y1 y2 y3 y4 y5 y6 y7 y8 y0 y1 y2 y3 y4 y5 y6 y7 y8 = some true := by
  simp [laws_eqDirChange.f, laws_eqStamp.f, laws_eqPart.f]
theorem eqDirChangeS_self (a : List S95) (ha : a.length ≤ 1048576) : Ev (fun k => laws_eqDirChangeS.f k a a) true := by
  unfold laws_eqDirChangeS.f
  refine Ev.yes rfl (self_loop (L := fun k i => laws_eqDirChangeS.l0 k a a i) (n := a.length) (fun i hi hr => ?_) ?_ a.length 0 (by omega))
  · refine Ev.succ ?_
    simp only [laws_eqDirChangeS.l0]
    rw [← wrap_nat (by omega)] at hr
    exact Ev.yes (by omega) (Ev.yes (by omega) (Ev.yes (by omega) (Ev.call (eqDirChange_self _ _ _ _ _ _ _ _ _) (Ev.yes rfl hr))))
  · refine Ev.succ ?_
    simp only [laws_eqDirChangeS.l0]
    exact Ev.no (by omega) (Ev.now _)
theorem toDirChangeS_ev (l : List S91) (hl : l.length ≤ 1048576) : Ev (fun k => laws_toDirChangeS.f k l) (l.map cvDirChange) := by
  unfold laws_toDirChangeS.f
  refine Ev.yes (by omega) (Ev.yes (by omega) ?_)
  refine to_loop (L := fun k o i => laws_toDirChangeS.l0 k l o i) (g := cvDirChange) (z := z95) ?_ ?_ l.length 0 (by omega)
  · intro i h o ho r hr
    refine Ev.succ ?_
    simp only [laws_toDirChangeS.l0]
    refine Ev.yes (by omega) (Ev.yes (by omega) ?_)
    simp only [laws_toDirChange.f, laws_toStamp.f, laws_toPart.f, Option.bind_some]
    refine Ev.yes (by omega) ?_
    rw [wrap_nat (by omega), Int.toNat_natCast]
    have e : rd_T91 l (i : Int) = l[i] := by unfold rd_T91; rw [Int.toNat_natCast, List.getD_eq_getElem?_getD, List.getElem?_eq_getElem h]; rfl
    rw [e]
    exact hr
  · intro o
    refine Ev.succ ?_
    simp only [laws_toDirChangeS.l0]
    exact Ev.no (by omega) (Ev.now _)
def fitsDirChange (x : S91) : Prop := (x.f4.f0).size ≤ 1048576 ∧ (x.f4.f1).size ≤ 1048576 ∧ (x.f5).size ≤ 1048576 ∧ (x.f6).size ≤ 1048576
theorem szDirChange_to (x : S91) (m : Int) (h0 : 0 ≤ m) (h1 : m ≤ 1048576) (hx : (x.f4.f0).size ≤ 140737488351232 ∧ (x.f4.f1).size ≤ 140737488351232 ∧ (x.f5).size ≤ 140737488351232 ∧ (x.f6).size ≤ 140737488351232) : ∃ r, laws_szDirChange.f x.f0.f0 x.f0.f1 x.f1 x.f2 x.f3 x.f4.f0 x.f4.f1 x.f5 x.f6 m = some r ∧ r ≤ m ∧ (¬ r < 0 → fitsDirChange x) := by
  unfold fitsDirChange laws_szDirChange.f
  simp only [wrap64, laws_szPart.f]
  repeat' split
  all_goals first | exact ⟨_, rfl, by omega, by omega⟩ | (simp only [Option.bind_some]; (repeat' split); all_goals exact ⟨_, rfl, by omega, by omega⟩) | (refine ⟨_, rfl, ?_, ?_⟩ <;> simp <;> omega)
theorem szDirChangeS_to (l : List S91) (m : Int) (h0 : 0 ≤ m) (h1 : m ≤ 1048576) (hl : l.length ≤ 140737488351232) (hx : ∀ x ∈ l, (x.f4.f0).size ≤ 140737488351232 ∧ (x.f4.f1).size ≤ 140737488351232 ∧ (x.f5).size ≤ 140737488351232 ∧ (x.f6).size ≤ 140737488351232) : SzTo (fun k => laws_szDirChangeS.f k l m) m (l.length ≤ 1048576 ∧ ∀ x ∈ l, fitsDirChange x) := by
  unfold laws_szDirChangeS.f
  rw [wrap_id (x := m - (l.length : Int)) (by omega) (by omega)]
  by_cases hn : m - (l.length : Int) < 0
  · exact ⟨-1, Ev.yes hn (Ev.now _), by omega, fun h => absurd (by omega) h⟩
  · have H := sz_loop (L := fun k m i => laws_szDirChangeS.l0 k l m i) (Q := fitsDirChange) (l := l) (fun i h m h0 h1 => by
      have e : rd_T91 l (i : Int) = l[i] := by unfold rd_T91; rw [Int.toNat_natCast, List.getD_eq_getElem?_getD, List.getElem?_eq_getElem h]; rfl
      obtain ⟨r, h2, h3, h4⟩ := szDirChange_to l[i] m h0 h1 (hx _ (List.getElem_mem h))
      refine ⟨r, h3, h4, fun hz => ?_, fun hz s hs => ?_⟩
      · refine Ev.succ ?_
        simp only [laws_szDirChangeS.l0]
        rw [e]
        exact Ev.yes (by omega) (Ev.yes (by omega) (Ev.call h2 (Ev.yes hz (Ev.now _))))
      · refine Ev.succ ?_
        simp only [laws_szDirChangeS.l0]
        rw [e]
        rw [← wrap_nat (by omega)] at hs
        exact Ev.yes (by omega) (Ev.yes (by omega) (Ev.call h2 (Ev.no hz hs)))) (fun m => by
      refine Ev.succ ?_
      simp only [laws_szDirChangeS.l0]
      exact Ev.no (by omega) (Ev.now _)) l.length 0 (m - (l.length : Int)) (by omega) (by omega) (by omega)
    obtain ⟨r, hr, hle, hq⟩ := H
    exact ⟨r, Ev.no hn hr, by omega, fun h => ⟨by omega, fun x hx => hq h x (by simpa using hx)⟩⟩
abbrev DC : Type := S95
def changeB (x : DC) : Bool := goodChange x.f0.f0 x.f0.f1 x.f1 x.f2 x.f3 x.f4.f0 x.f4.f1 x.f5 x.f6
def cmpC (x y : DC) : Int := orL [cmpI x.f0.f0 y.f0.f0, cmpI x.f0.f1 y.f0.f1]
def fitC (x : DC) : Prop := x.f4.f0.size ≤ 1048576 ∧ x.f4.f1.size ≤ 1048576 ∧ x.f5.size ≤ 1048576 ∧ x.f6.size ≤ 1048576
theorem spec_l4Cmp_eq (x y : DC) : spec_l4Cmp.f x.f0.f0 x.f0.f1 y.f0.f0 y.f0.f1 = some (cmpC x y) := by
  unfold spec_l4Cmp.f cmpC orL
  rw [spec_l1CmpNum_eq, spec_l1CmpNum_eq]
  simp only [Option.bind_some]
  show (if cmpI x.f0.f0 y.f0.f0 = 0 then some (cmpI x.f0.f1 y.f0.f1) else some (cmpI x.f0.f0 y.f0.f0)) = _
  split
  · unfold orL orL
    split
    · rename_i e'; rw [e']
    · rfl
  · rfl
theorem impl_ycmpStamp_ev (x y : DC) : Ev (fun k => impl_ycmpStamp.f k x.f0.f0 x.f0.f1 y.f0.f0 y.f0.f1) (cmpC x y) := by
  unfold impl_ycmpStamp.f
  refine Ev.call (cmp_Compare_int_eq _ _) (Ev.call (cmp_Compare_int_eq _ _) (Ev.tail ?_))
  exact cmp_Or_int_ev _ (by simp)
def goodLog (l : List DC) : Bool := decide (l.length ≤ 200) && rising changeB cmpC z95 l
theorem rdC (l : List DC) (i : Nat) : rd_T95 l (i : Int) = l.getD i z95 := rfl
def fitsC (l : List DC) : Prop := ∀ i, fitC (l.getD i z95)
theorem spec_GoodLog_ev (l : List DC) (hl : l.length ≤ 1048576) (hf : fitsC l) : Ev (fun k => spec_GoodLog.f k l) (goodLog l) := by
  unfold spec_GoodLog.f goodLog
  refine Ev.ite (fun h => Ev.some ?_) fun h => ?_
  · rw [decide_eq_false (by omega)]; rfl
  rw [decide_eq_true (by omega), Bool.true_and, ← Bool.and_true (rising _ _ _ _)]
  refine rise_loop (L := fun k i => spec_GoodLog.l0 k l l (l.length : Int) i) (fun i hi => ?_) (Ev.succ (by simp only [spec_GoodLog.l0]; exact Ev.no (by omega) (Ev.now _)))
  have S := rise_step (R := fun k => spec_GoodLog.l0 k l l (l.length : Int) ((i + 1 : Nat) : Int)) (c := cmpC (l.getD (i - 1) z95) (l.getD i z95)) (C := fun k => spec_l4Cmp.f ((rd_T95 l (wrap64 ((i : Int) - 1))).f0.f0) ((rd_T95 l (wrap64 ((i : Int) - 1))).f0.f1) ((l.getD i z95).f0.f0) ((l.getD i z95).f0.f1)) hi hl (spec_GoodChange_ev (l.getD i z95).f0.f0 (l.getD i z95).f0.f1 (l.getD i z95).f1 (l.getD i z95).f2 (l.getD i z95).f3 _ _ _ _ (hf i).1 (hf i).2.1 (hf i).2.2.1 (hf i).2.2.2) (fun hp => by
    rw [cast_pred hp (by omega), rdC, spec_l4Cmp_eq]; exact Ev.now _)
  refine ⟨fun hp => Ev.succ ?_, fun hp r hr => Ev.succ ?_⟩
  · simp only [spec_GoodLog.l0]
    rw [rdC, wrap_nat (by omega)]
    exact Ev.yes (by omega) (Ev.yes (by omega) (Ev.yes (by omega) (S.1 hp)))
  · simp only [spec_GoodLog.l0]
    rw [rdC, wrap_nat (by omega)]
    exact Ev.yes (by omega) (Ev.yes (by omega) (Ev.yes (by omega) (S.2 hp r hr)))
theorem impl_GoodLog_ev (l : List DC) (hl : l.length ≤ 1048576) (hf : fitsC l) : Ev (fun k => impl_GoodLog.f k l) (goodLog l) := by
  unfold impl_GoodLog.f goodLog
  refine Ev.ite (fun h => Ev.some ?_) fun h => ?_
  · rw [decide_eq_false (by omega)]; rfl
  rw [decide_eq_true (by omega), Bool.true_and, ← Bool.and_true (rising _ _ _ _)]
  refine rise_loop (L := fun k i => impl_GoodLog.l0 k l l (l.length : Int) i) (fun i hi => ?_) (Ev.succ (by simp only [impl_GoodLog.l0]; exact Ev.no (by omega) (Ev.now _)))
  have S := rise_step (R := fun k => impl_GoodLog.l0 k l l (l.length : Int) ((i + 1 : Nat) : Int)) (c := cmpC (l.getD (i - 1) z95) (l.getD i z95)) (C := fun k => impl_ycmpStamp.f k ((rd_T95 l (wrap64 ((i : Int) - 1))).f0.f0) ((rd_T95 l (wrap64 ((i : Int) - 1))).f0.f1) ((l.getD i z95).f0.f0) ((l.getD i z95).f0.f1)) hi hl (impl_GoodChange_ev (l.getD i z95).f0.f0 (l.getD i z95).f0.f1 (l.getD i z95).f1 (l.getD i z95).f2 (l.getD i z95).f3 _ _ _ _ (hf i).1 (hf i).2.1 (hf i).2.2.1 (hf i).2.2.2) (fun hp => by
    rw [cast_pred hp (by omega), rdC]; exact impl_ycmpStamp_ev _ _)
  refine ⟨fun hp => Ev.succ ?_, fun hp r hr => Ev.succ ?_⟩
  · simp only [impl_GoodLog.l0]
    rw [rdC, wrap_nat (by omega)]
    exact Ev.yes (by omega) (Ev.yes (by omega) (Ev.yes (by omega) (S.1 hp)))
  · simp only [impl_GoodLog.l0]
    rw [rdC, wrap_nat (by omega)]
    exact Ev.yes (by omega) (Ev.yes (by omega) (Ev.yes (by omega) (S.2 hp r hr)))
theorem fits_cvC {l : List S91} (h : ∀ x ∈ l, fitsDirChange x) : fitsC (l.map cvDirChange) := by
  intro i
  rw [List.getD_eq_getElem?_getD, List.getElem?_map]
  cases hi : l[i]? with
  | none => exact ⟨by decide, by decide, by decide, by decide⟩
  | some x => exact h x (List.mem_of_getElem? hi)
/-! ### marks as texts -/
def mtL : Nat → Nat → ByteArray → ByteArray
  | 0, _, s => s
  | f + 1, n, s => if n = 0 then ⟨#[109]⟩ ++ s else mtL f (n / 10) (strOfNums [(wrap64 (48 + (Int.tmod (n : Int) 10))) % 256] ++ s)
def mt (n : Nat) : ByteArray := mtL (n + 1) n ⟨#[]⟩
theorem markText_l0 : ∀ (f n : Nat) (s : ByteArray), n < f → s.size + n ≤ 1000000000 → Ev (fun k => laws_markText.l0 k (n : Int) s) (mtL f n s)
  | 0, n, s, h, _ => absurd h (Nat.not_lt_zero _)
  | f + 1, n, s, h, hs => by
    refine Ev.succ ?_
    simp only [laws_markText.l0]
    unfold mtL
    have e1 : (strOfNums [(wrap64 (48 + (Int.tmod (n : Int) 10))) % 256]).size = 1 := by rw [strOfNums_size]; rfl
    by_cases hn : n = 0
    · rw [if_pos hn]
      exact Ev.no (by omega) (Ev.yes (by omega) (Ev.now _))
    · rw [if_neg hn]
      have hq : wrap64 (Int.tdiv (n : Int) 10) = ((n / 10 : Nat) : Int) := by
        have : Int.tdiv (n : Int) 10 = ((n / 10 : Nat) : Int) := by rw [Int.tdiv_eq_ediv_of_nonneg (by omega)]; omega
        rw [this, wrap_id (by omega) (by omega)]
      rw [hq]
      refine Ev.yes (by omega) (Ev.call rfl (Ev.yes (by rw [e1]; omega) ?_))
      exact markText_l0 f (n / 10) _ (by omega) (by rw [ByteArray.size_append, e1]; omega)
theorem markText_ev (n : Nat) (h : 1 ≤ n) (h2 : n ≤ 900000000) : Ev (fun k => laws_markText.f k (n : Int)) (mt n) := by
  unfold laws_markText.f mt
  exact Ev.no (by omega) (markText_l0 (n + 1) n ⟨#[]⟩ (by omega) (by show 0 + n ≤ _; omega))
/-! ### marks of changes: set -/
abbrev Nc (n : Nat) : Int := (n : Int)
def dcm (m : Nat) : DC := ⟨⟨Nc m, Nc (m + 1)⟩, Nc (m + 2), Nc (m + 3), Nc (m + 4), ⟨mt (m + 5), mt (m + 6)⟩, mt (m + 7), mt (m + 8)⟩
def dcL (m n : Nat) : List DC := (List.range n).map fun i => dcm (m + 9 * i)
theorem dcL_len (m n : Nat) : (dcL m n).length = n := by simp [dcL]
theorem dcL_get (m n i : Nat) (h : i < n) : (dcL m n)[i]'(by rw [dcL_len]; exact h) = dcm (m + 9 * i) := by simp [dcL]
theorem rd_dc (l : List DC) (i : Nat) (h : i < l.length) : rd_T95 l (i : Int) = l[i] := by
  unfold rd_T95; rw [Int.toNat_natCast, List.getD_eq_getElem?_getD, List.getElem?_eq_getElem h]; rfl
theorem rd_dc_set (l : List DC) (i : Nat) (v : DC) (h : i < l.length) : rd_T95 (l.set i v) (i : Int) = v := by
  rw [rd_dc _ i (by rw [List.length_set]; exact h), List.getElem_set_self]
theorem markDC_step (l : List DC) (i m : Nat) (hi : i < l.length) (hl : l.length ≤ 1048576) (h1 : 1 ≤ m) (hm : m ≤ 800000000) (r : Int × List DC) (hr : Ev (fun k => laws_markDirChangeS.l0 k (l.set i (dcm m)) (Nc (m + 9)) ((i + 1 : Nat) : Int)) r) :
    Ev (fun k => laws_markDirChangeS.l0 k l (Nc m) (i : Int)) r := by
  have hlt : (i : Int) < (l.length : Int) := by omega
  have h0 : (0 : Int) ≤ (i : Int) := by omega
  have w1 : wrap64 (Nc m + 1) = Nc (m + 1) := wrap_nat (by omega)
  have w2 : wrap64 (Nc (m + 1) + 1) = Nc (m + 2) := wrap_nat (by omega)
  have w3 : wrap64 (Nc (m + 2) + 1) = Nc (m + 3) := wrap_nat (by omega)
  have w4 : wrap64 (Nc (m + 3) + 1) = Nc (m + 4) := wrap_nat (by omega)
  have w5 : wrap64 (Nc (m + 4) + 1) = Nc (m + 5) := wrap_nat (by omega)
  have w6 : wrap64 (Nc (m + 5) + 1) = Nc (m + 6) := wrap_nat (by omega)
  have w7 : wrap64 (Nc (m + 6) + 1) = Nc (m + 7) := wrap_nat (by omega)
  have w8 : wrap64 (Nc (m + 7) + 1) = Nc (m + 8) := wrap_nat (by omega)
  have w9 : wrap64 (Nc (m + 8) + 1) = Nc (m + 9) := wrap_nat (by omega)
  have wi : wrap64 ((i : Int) + 1) = ((i + 1 : Nat) : Int) := wrap_nat (by omega)
  refine Ev.succ ?_
  simp only [laws_markDirChangeS.l0]
  rw [w1, w2, w3, w4, w5, w6, w7, w8, w9, wi, Int.toNat_natCast]
  refine Ev.yes hlt (Ev.yes h0 (Ev.call rfl ?_))
  simp only [rd_dc_set l i _ hi, List.set_set]
  refine Ev.call rfl ?_
  simp only [rd_dc_set l i _ hi, List.set_set]
  refine Ev.call rfl ?_
  simp only [rd_dc_set l i _ hi, List.set_set]
  refine Ev.call rfl ?_
  simp only [rd_dc_set l i _ hi, List.set_set]
  refine Ev.call rfl ?_
  simp only [rd_dc_set l i _ hi, List.set_set]
  refine (markText_ev (m + 5) (by omega) (by omega)).bind (Ev.call rfl ?_)
  simp only [rd_dc_set l i _ hi, List.set_set]
  refine (markText_ev (m + 6) (by omega) (by omega)).bind (Ev.call rfl ?_)
  simp only [rd_dc_set l i _ hi, List.set_set]
  refine (markText_ev (m + 7) (by omega) (by omega)).bind (Ev.call rfl ?_)
  simp only [rd_dc_set l i _ hi, List.set_set]
  refine (markText_ev (m + 8) (by omega) (by omega)).bind ?_
  exact hr
theorem markDC_ex (l : List DC) (m : Nat) (h1 : 1 ≤ m) (hm : m ≤ 1000) (hl : l.length ≤ 1048576) : Ev (fun k => laws_markDirChangeS.f k l (m : Int)) (((m + 9 * l.length : Nat) : Int), dcL m l.length) := by
  unfold laws_markDirChangeS.f
  have H : ∀ (d i : Nat), l.length = i + d → Ev (fun k => laws_markDirChangeS.l0 k ((dcL m l.length).take i ++ l.drop i) (Nc (m + 9 * i)) (i : Int)) (((m + 9 * l.length : Nat) : Int), dcL m l.length) := by
    intro d
    induction d with
    | zero =>
      intro i h
      refine Ev.succ ?_
      simp only [laws_markDirChangeS.l0]
      refine Ev.no (by simp [dcL_len]; omega) (Ev.some ?_)
      obtain rfl : i = l.length := by omega
      rw [List.drop_length, List.append_nil, List.take_of_length_le (by rw [dcL_len]; exact Nat.le_refl _)]
    | succ d ih =>
      intro i h
      have z := ih (i + 1) (by omega)
      have hlen : ((dcL m l.length).take i ++ l.drop i).length = l.length := by simp [dcL_len]; omega
      refine markDC_step _ i (m + 9 * i) (by omega) (by omega) (by omega) (by omega) _ ?_
      have e1 : ((dcL m l.length).take i ++ l.drop i).set i (dcm (m + 9 * i)) = (dcL m l.length).take (i + 1) ++ l.drop (i + 1) := by
        rw [List.set_append_right _ _ (by simp [dcL_len]; omega), show i - ((dcL m l.length).take i).length = 0 by simp [dcL_len]; omega]
        rw [List.drop_eq_getElem_cons (show i < l.length by omega), List.set_cons_zero]
        rw [List.take_succ_eq_append_getElem (by rw [dcL_len]; omega), dcL_get _ _ _ (by omega), List.append_assoc]; rfl
      rw [e1, show m + 9 * i + 9 = m + 9 * (i + 1) by omega]
      exact z
  exact H l.length 0 (by omega)
/-! ### marks of changes: held -/
theorem heldDC_ev (m n : Nat) (h1 : 1 ≤ m) (hm : m ≤ 1000) (hl : n ≤ 1048576) : Ev (fun k => laws_heldDirChangeS.f k (dcL m n) (m : Int)) ((m + 9 * n : Nat) : Int) := by
  unfold laws_heldDirChangeS.f
  have H : ∀ (d i : Nat), n = i + d → Ev (fun k => laws_heldDirChangeS.l0 k (dcL m n) (Nc (m + 9 * i)) (i : Int)) ((m + 9 * n : Nat) : Int) := by
    intro d
    induction d with
    | zero =>
      intro i h
      obtain rfl : i = n := by omega
      refine Ev.succ ?_
      simp only [laws_heldDirChangeS.l0]
      exact Ev.no (by rw [dcL_len]; omega) (Ev.now _)
    | succ d ih =>
      intro i h
      have z := ih (i + 1) (by omega)
      rw [show m + 9 * (i + 1) = m + 9 * i + 9 by omega] at z
      have hlt : (i : Int) < ((dcL m n).length : Int) := by rw [dcL_len]; omega
      have h0 : (0 : Int) ≤ (i : Int) := by omega
      generalize hq : m + 9 * i = q at z
      have hq1 : 1 ≤ q ∧ q ≤ 20000000 := by omega
      have w1 : wrap64 (Nc q + 1) = Nc (q + 1) := wrap_nat (by omega)
      have w2 : wrap64 (Nc (q + 1) + 1) = Nc (q + 2) := wrap_nat (by omega)
      have w3 : wrap64 (Nc (q + 2) + 1) = Nc (q + 3) := wrap_nat (by omega)
      have w4 : wrap64 (Nc (q + 3) + 1) = Nc (q + 4) := wrap_nat (by omega)
      have w5 : wrap64 (Nc (q + 4) + 1) = Nc (q + 5) := wrap_nat (by omega)
      have w6 : wrap64 (Nc (q + 5) + 1) = Nc (q + 6) := wrap_nat (by omega)
      have w7 : wrap64 (Nc (q + 6) + 1) = Nc (q + 7) := wrap_nat (by omega)
      have w8 : wrap64 (Nc (q + 7) + 1) = Nc (q + 8) := wrap_nat (by omega)
      have w9 : wrap64 (Nc (q + 8) + 1) = Nc (q + 9) := wrap_nat (by omega)
      have wi : wrap64 ((i : Int) + 1) = ((i + 1 : Nat) : Int) := wrap_nat (by omega)
      refine Ev.succ ?_
      simp only [laws_heldDirChangeS.l0]
      rw [rd_dc _ i (by rw [dcL_len]; omega), dcL_get m n i (by omega), hq]
      rw [w1, w2, w3, w4, w5, w6, w7, w8, w9, wi]
      refine Ev.yes hlt (Ev.yes h0 (Ev.yes rfl (Ev.yes rfl (Ev.yes rfl (Ev.yes rfl (Ev.yes rfl ?_))))))
      refine (markText_ev (q + 5) (by omega) (by omega)).bind (Ev.yes rfl ?_)
      refine (markText_ev (q + 6) (by omega) (by omega)).bind (Ev.yes rfl ?_)
      refine (markText_ev (q + 7) (by omega) (by omega)).bind (Ev.yes rfl ?_)
      refine (markText_ev (q + 8) (by omega) (by omega)).bind (Ev.yes rfl ?_)
      exact z
  exact H n 0 (by omega)
/-! ### marks of stamps -/
theorem rd_stm (l : List S25) (i : Nat) (h : i < l.length) : rd_T25 l (i : Int) = l[i] := by
  unfold rd_T25; rw [Int.toNat_natCast, List.getD_eq_getElem?_getD, List.getElem?_eq_getElem h]; rfl
theorem rd_stm_set (l : List S25) (i : Nat) (v : S25) (h : i < l.length) : rd_T25 (l.set i v) (i : Int) = v := by
  rw [rd_stm _ i (by rw [List.length_set]; exact h), List.getElem_set_self]
def stm (m n : Nat) : List S25 := (List.range n).map fun i => ⟨((m + 2 * i : Nat) : Int), ((m + 2 * i + 1 : Nat) : Int)⟩
theorem stm_len (m n : Nat) : (stm m n).length = n := by simp [stm]
theorem stm_get (m n i : Nat) (h : i < n) : (stm m n)[i]'(by rw [stm_len]; exact h) = ⟨((m + 2 * i : Nat) : Int), ((m + 2 * i + 1 : Nat) : Int)⟩ := by simp [stm]
theorem markStampS_ev (l : List S25) (m : Nat) (hm : m ≤ 90000000) (hl : l.length ≤ 1048576) : Ev (fun k => laws_markStampS.f k l (m : Int)) (((m + 2 * l.length : Nat) : Int), stm m l.length) := by
  unfold laws_markStampS.f
  have H : ∀ (d i : Nat), l.length = i + d → Ev (fun k => laws_markStampS.l0 k ((stm m l.length).take i ++ l.drop i) ((m + 2 * i : Nat) : Int) (i : Int)) (((m + 2 * l.length : Nat) : Int), stm m l.length) := by
    intro d
    induction d with
    | zero =>
      intro i h
      refine Ev.succ ?_
      simp only [laws_markStampS.l0]
      refine Ev.no (by simp [stm_len]; omega) (Ev.some ?_)
      obtain rfl : i = l.length := by omega
      rw [List.drop_length, List.append_nil, List.take_of_length_le (by rw [stm_len]; exact Nat.le_refl _)]
    | succ d ih =>
      intro i h
      refine Ev.succ ?_
      simp only [laws_markStampS.l0, Option.bind_some]
      refine Ev.yes (by simp [stm_len]; omega) (Ev.yes (by omega) ?_)
      have z := ih (i + 1) (by omega)
      have hlen : i < ((stm m l.length).take i ++ l.drop i).length := by simp [stm_len]; omega
      have e1 : ∀ v, ((stm m l.length).take i ++ l.drop i).set i v = (stm m l.length).take i ++ v :: l.drop (i + 1) := by
        intro v
        rw [List.set_append_right _ _ (by simp [stm_len]; omega), show i - ((stm m l.length).take i).length = 0 by simp [stm_len]; omega]
        rw [List.drop_eq_getElem_cons (show i < l.length by omega), List.set_cons_zero]
      rw [Int.toNat_natCast, wrap_nat (show m + 2 * i < 9000000000000000000 by omega), wrap_nat (show m + 2 * i + 1 < 9000000000000000000 by omega), wrap_nat (show i < 9000000000000000000 by omega)]
      rw [rd_stm_set _ i _ hlen, List.set_set, e1]
      have e2 : (stm m l.length).take (i + 1) ++ l.drop (i + 1) = (stm m l.length).take i ++ (⟨((m + 2 * i : Nat) : Int), ((m + 2 * i + 1 : Nat) : Int)⟩ : S25) :: l.drop (i + 1) := by
        rw [List.take_succ_eq_append_getElem (by rw [stm_len]; omega), stm_get _ _ _ (by omega), List.append_assoc]; rfl
      rw [e2, show m + 2 * (i + 1) = m + 2 * i + 1 + 1 by omega] at z
      exact z
  exact H l.length 0 (by omega)
def cvStamp (x : S87) : S25 := ⟨x.f0, x.f1⟩
theorem eqStamp_self (y0 : Int) (y1 : Int) : laws_eqStamp.f y0 y1 y0 y1 = some true := by
  simp [laws_eqStamp.f]
theorem eqStampS_self (a : List S25) (ha : a.length ≤ 1048576) : Ev (fun k => laws_eqStampS.f k a a) true := by
  unfold laws_eqStampS.f
  refine Ev.yes rfl (self_loop (L := fun k i => laws_eqStampS.l0 k a a i) (n := a.length) (fun i hi hr => ?_) ?_ a.length 0 (by omega))
  · refine Ev.succ ?_
    simp only [laws_eqStampS.l0]
    rw [← wrap_nat (by omega)] at hr
    exact Ev.yes (by omega) (Ev.yes (by omega) (Ev.yes (by omega) (Ev.call (eqStamp_self _ _) (Ev.yes rfl hr))))
  · refine Ev.succ ?_
    simp only [laws_eqStampS.l0]
    exact Ev.no (by omega) (Ev.now _)
theorem toStampS_ev (l : List S87) (hl : l.length ≤ 1048576) : Ev (fun k => laws_toStampS.f k l) (l.map cvStamp) := by
  unfold laws_toStampS.f
  refine Ev.yes (by omega) (Ev.yes (by omega) ?_)
  refine to_loop (L := fun k o i => laws_toStampS.l0 k l o i) (g := cvStamp) (z := z25) ?_ ?_ l.length 0 (by omega)
  · intro i h o ho r hr
    refine Ev.succ ?_
    simp only [laws_toStampS.l0]
    refine Ev.yes (by omega) (Ev.yes (by omega) ?_)
    simp only [laws_toStamp.f, Option.bind_some]
    refine Ev.yes (by omega) ?_
    rw [wrap_nat (by omega), Int.toNat_natCast]
    have e : rd_T87 l (i : Int) = l[i] := by unfold rd_T87; rw [Int.toNat_natCast, List.getD_eq_getElem?_getD, List.getElem?_eq_getElem h]; rfl
    rw [e]
    exact hr
  · intro o
    refine Ev.succ ?_
    simp only [laws_toStampS.l0]
    exact Ev.no (by omega) (Ev.now _)
abbrev St : Type := S25
theorem rises_lt (v : List St) : ∀ b, risesV v b = true → ∀ a c, a < c → c < b → (rdW v a).f1 < (rdW v c).f1
  | 0, _, a, c, _, h => absurd h (Nat.not_lt_zero _)
  | b + 1, h, a, c, hac, hcb => by
    simp only [risesV, Bool.and_eq_true, Bool.or_eq_true, decide_eq_true_eq] at h
    by_cases e : c = b
    · subst e
      have h2 : (rdW v (c - 1)).f1 < (rdW v c).f1 := by rcases h.2 with q | q; omega; exact q
      by_cases e2 : a = c - 1
      · subst e2; exact h2
      · have := rises_lt v c h.1 a (c - 1) (by omega) (by omega)
        omega
    · exact rises_lt v b h.1 a c hac (by omega)
theorem idxV_none (v : List St) (who : Int) : ∀ d i, idxV v who d i = -1 → ∀ j, i ≤ j → j < i + d → (rdW v j).f1 ≠ who
  | 0, i, _, j, h1, h2 => by omega
  | d + 1, i, h, j, h1, h2 => by
    unfold idxV at h
    split at h
    · omega
    · rename_i hn
      by_cases e : j = i
      · subst e; exact hn
      · exact idxV_none v who d (i + 1) h j (by omega) (by omega)
theorem idxV_some (v : List St) (who : Int) : ∀ d i j : Nat, idxV v who d i = (j : Int) → (rdW v j).f1 = who
  | 0, i, j, h => by unfold idxV at h; omega
  | d + 1, i, j, h => by
    unfold idxV at h
    split at h
    · rename_i hy
      obtain rfl : i = j := by omega
      exact hy
    · exact idxV_some v who d (i + 1) j h
def knownV (v : List St) (c : DC) : Nat → Bool
  | 0 => false
  | j + 1 => if knownV v c j = true then true else (if (rdW v j).f1 = c.f0.f1 then decide (c.f0.f0 ≤ (rdW v j).f0) else false)
theorem knownV_iff (v : List St) (c : DC) : ∀ n, knownV v c n = true ↔ ∃ j, j < n ∧ (rdW v j).f1 = c.f0.f1 ∧ c.f0.f0 ≤ (rdW v j).f0
  | 0 => by simp [knownV]
  | n + 1 => by
    have ih := knownV_iff v c n
    unfold knownV
    by_cases h : knownV v c n = true
    · rw [if_pos h]
      obtain ⟨j, h1, h2⟩ := ih.1 h
      exact ⟨fun _ => ⟨j, by omega, h2⟩, fun _ => rfl⟩
    · rw [if_neg h]
      have hn : ¬ ∃ j, j < n ∧ (rdW v j).f1 = c.f0.f1 ∧ c.f0.f0 ≤ (rdW v j).f0 := fun q => h (ih.2 q)
      constructor
      · intro q
        by_cases e : (rdW v n).f1 = c.f0.f1
        · rw [if_pos e] at q
          exact ⟨n, by omega, e, of_decide_eq_true q⟩
        · rw [if_neg e] at q; exact absurd q (by decide)
      · rintro ⟨j, h1, h2, h3⟩
        by_cases e : j = n
        · subst e; rw [if_pos h2]; exact decide_eq_true h3
        · exact absurd ⟨j, by omega, h2, h3⟩ hn
theorem known_need {v : List St} (hr : risesV v v.length = true) (c : DC) : knownV v c v.length = !needV v c := by
  have hk := knownV_iff v c v.length
  have hg := idxV_range v c.f0.f1 v.length 0
  by_cases h : needV v c = true
  · rw [h]
    refine Bool.eq_false_iff.2 fun q => ?_
    obtain ⟨j, h1, h2, h3⟩ := hk.1 q
    unfold needV at h
    simp only [Bool.or_eq_true, decide_eq_true_eq] at h
    rcases hg with g | g
    · exact idxV_none v _ _ 0 g j (by omega) (by omega) h2
    · obtain ⟨o, ho⟩ : ∃ o : Nat, idxV v c.f0.f1 v.length 0 = (o : Int) := ⟨(idxV v c.f0.f1 v.length 0).toNat, by omega⟩
      have hs := idxV_some v _ _ 0 o ho
      rw [ho] at h g
      have hoj : o = j := by
        rcases Nat.lt_trichotomy o j with q1 | q1 | q1
        · have := rises_lt v v.length hr o j q1 h1
          rw [hs, h2] at this; omega
        · exact q1
        · have := rises_lt v v.length hr j o q1 (by omega)
          rw [hs, h2] at this; omega
      subst hoj
      rcases h with h | h
      · omega
      · have : (rd_T25 v (o : Int)).f0 = (rdW v o).f0 := rfl
        omega
  · rw [Bool.eq_false_iff.2 h]
    refine hk.2 ?_
    unfold needV at h
    simp only [Bool.or_eq_true, decide_eq_true_eq, not_or] at h
    obtain ⟨o, ho⟩ : ∃ o : Nat, idxV v c.f0.f1 v.length 0 = (o : Int) := ⟨(idxV v c.f0.f1 v.length 0).toNat, by omega⟩
    have hs := idxV_some v _ _ 0 o ho
    rw [ho] at h hg
    exact ⟨o, by omega, hs, by have : (rd_T25 v (o : Int)).f0 = (rdW v o).f0 := rfl; omega⟩
theorem spec_l4Missing_l1 (l : List DC) (v : List St) (hl : l.length ≤ 1048576) (hv : v.length ≤ 100) (hr : risesV v v.length = true) (i : Nat) (hi : i < l.length) (x5 : List DC) (hx : x5.length ≤ 1048576) (r : List DC)
    (hc : Ev (fun k => spec_l4Missing.l0 k v (if needV v (rdG l i) = true then x5 ++ [rdG l i] else x5) l (l.length : Int) ((i + 1 : Nat) : Int)) r) :
    ∀ (d j : Nat), v.length = j + d → Ev (fun k => spec_l4Missing.l1 k v x5 (knownV v (rdG l i) j) l (l.length : Int) (i : Int) v (v.length : Int) (j : Int) (rdG l i).f0.f0 (rdG l i).f0.f1 (rdG l i).f1 (rdG l i).f2 (rdG l i).f3 (rdG l i).f4.f0 (rdG l i).f4.f1 (rdG l i).f5 (rdG l i).f6) r := by
  intro d
  induction d with
  | zero =>
    intro j h
    obtain rfl : j = v.length := by omega
    refine Ev.succ ?_
    simp only [spec_l4Missing.l1]
    rw [wrap_nat (i := i) (by omega), known_need hr]
    by_cases hn : needV v (rdG l i) = true
    · rw [hn] at hc ⊢
      rw [if_pos rfl] at hc
      exact Ev.no (by omega) (Ev.no (by decide) (Ev.yes (by omega) hc))
    · rw [Bool.eq_false_iff.2 hn] at hc ⊢
      rw [if_neg (by decide)] at hc
      exact Ev.no (by omega) (Ev.yes rfl hc)
  | succ d ih =>
    intro j h
    have z := ih (j + 1) (by omega)
    refine Ev.succ ?_
    simp only [spec_l4Missing.l1]
    rw [wrap_nat (i := j) (by omega)]
    refine Ev.yes (by omega) (Ev.yes (by omega) (Ev.yes (by omega) (Ev.ite (fun e => ?_) fun e => Ev.ite (fun g => ?_) fun g => ?_)))
    · simp only [knownV] at z
      rw [if_pos e] at z
      exact z
    · simp only [knownV] at z
      rw [if_neg e, if_pos g] at z
      exact z
    · simp only [knownV] at z
      rw [if_neg e, if_neg g] at z
      exact z
theorem spec_l4Missing_ev (l : List DC) (v : List St) (hl : l.length ≤ 1048576) (hv : v.length ≤ 100) (hr : risesV v v.length = true) : Ev (fun k => spec_l4Missing.f k l v) (missV l v l.length) := by
  unfold spec_l4Missing.f
  have H : ∀ (d i : Nat), l.length = i + d → Ev (fun k => spec_l4Missing.l0 k v (missV l v i) l (l.length : Int) (i : Int)) (missV l v l.length) := by
    intro d
    induction d with
    | zero =>
      intro i h
      obtain rfl : i = l.length := by omega
      refine Ev.succ ?_
      simp only [spec_l4Missing.l0]
      exact Ev.no (by omega) (Ev.now _)
    | succ d ih =>
      intro i h
      have z := ih (i + 1) (by omega)
      refine Ev.succ ?_
      simp only [spec_l4Missing.l0]
      refine Ev.yes (by omega) (Ev.yes (by omega) (Ev.yes (by omega) ?_))
      refine spec_l4Missing_l1 l v hl hv hr i (by omega) (missV l v i) (Nat.le_trans (missV_len l v i) (by omega)) _ ?_ v.length 0 (by omega)
      simp only [missV] at z
      exact z
  exact H l.length 0 (by omega)
def missB (l : List DC) (v : List St) : List DC := if goodLog l = true then (if v.length ≤ 100 then (if risesV v v.length = true then missV l v l.length else []) else []) else []
theorem missB_len (l : List DC) (v : List St) (hl : l.length ≤ 1048576) : (missB l v).length ≤ 1048576 := by
  unfold missB
  repeat' split
  all_goals first | exact Nat.le_trans (missV_len l v l.length) hl | exact Nat.zero_le _
theorem spec_Missing_l0 (l : List DC) (v : List St) (hl : l.length ≤ 1048576) (hv : v.length ≤ 100) : ∀ (d i : Nat), v.length = i + d → risesV v i = true → Ev (fun k => spec_Missing.l0 k l v (v.length : Int) (i : Int)) (if risesV v v.length = true then missV l v l.length else []) := by
  intro d
  induction d with
  | zero =>
    intro i h hr
    obtain rfl : i = v.length := by omega
    rw [if_pos hr]
    refine Ev.succ ?_
    simp only [spec_Missing.l0]
    exact Ev.no (by omega) ((spec_l4Missing_ev l v hl hv hr).bind (Ev.now _))
  | succ d ih =>
    intro i h hr
    refine Ev.succ ?_
    simp only [spec_Missing.l0]
    rw [wrap_nat (i := i) (by omega)]
    refine Ev.yes (by omega) (Ev.ite (fun hp => ?_) fun hp => ?_)
    · rw [show wrap64 ((i : Int) - 1) = ((i - 1 : Nat) : Int) from by rw [wrap_id (by omega) (by omega)]; omega]
      refine Ev.yes (by omega) (Ev.yes (by omega) (Ev.yes (by omega) (Ev.yes (by omega) (Ev.ite (fun hg => Ev.some ?_) fun hg => ?_))))
      · rw [if_neg]
        intro q
        have := rises_lt v v.length q (i - 1) i (by omega) (by omega)
        unfold rdW at this
        omega
      · refine ih (i + 1) (by omega) ?_
        unfold risesV
        rw [hr, decide_eq_true (p := (rdW v (i - 1)).f1 < (rdW v i).f1) (by unfold rdW; omega), Bool.or_true]; rfl
    · refine ih (i + 1) (by omega) ?_
      unfold risesV
      rw [hr, decide_eq_true (show i = 0 by omega)]; rfl
theorem spec_Missing_ev (l : List DC) (v : List St) (hl : l.length ≤ 1048576) (hf : fitsC l) : Ev (fun k => spec_Missing.f k l v) (missB l v) := by
  unfold spec_Missing.f missB
  refine (spec_GoodLog_ev l hl hf).bind (Ev.ite (fun g => ?_) fun g => ?_)
  · rw [if_pos g]
    by_cases hv : v.length ≤ 100
    · rw [if_pos hv, decide_eq_false (by omega)]
      refine Ev.succ ?_
      simp only [spec_Missing.j0]
      exact Ev.no (by decide) (spec_Missing_l0 l v hl hv v.length 0 (by omega) rfl)
    · rw [if_neg hv, decide_eq_true (by omega)]
      refine Ev.succ ?_
      simp only [spec_Missing.j0]
      exact Ev.yes trivial (Ev.now _)
  · rw [if_neg g]
    refine Ev.succ ?_
    simp only [spec_Missing.j0]
    exact Ev.yes trivial (Ev.now _)
theorem impl_Missing_ev (l : List DC) (v : List St) (hl : l.length ≤ 1048576) (hf : fitsC l) : Ev (fun k => impl_Missing.f k l v) (missB l v) := by
  unfold impl_Missing.f missB
  refine (impl_GoodLog_ev l hl hf).bind (Ev.ite (fun g => ?_) fun g => Ev.some (by rw [if_neg g]))
  rw [if_pos g]
  refine Ev.ite (fun h1 => ?_) fun h1 => Ev.some (by rw [if_neg h1])
  rw [if_pos h1]
  refine Ev.ite (fun h2 => ?_) fun h2 => Ev.some (by rw [if_neg h2])
  rw [if_pos h2]
  exact Ev.yes hl (Ev.now _)
theorem szStampS_to (l : List S87) (m : Int) (h0 : 0 ≤ m) (h1 : m ≤ 1048576) (hl : l.length ≤ 140737488351232) : laws_szStampS.f l m = some (if m - (l.length : Int) < 0 then -1 else m - (l.length : Int)) := by
  unfold laws_szStampS.f
  rw [wrap_id (by omega) (by omega)]
  split <;> rfl
theorem FnExactMissing : laws_FnExactMissing.Pure := by
  intro l v hl hv
  obtain ⟨_, hb, hx⟩ := hl
  have hvb : v.length ≤ 17592186044416 := by have := hv.2.1; omega
  apply Ev.rounds
  unfold laws_FnExactMissing.f
  obtain ⟨r, hr, hr2, hq⟩ := szDirChangeS_to l 1048576 (by omega) (by omega) (by omega) (fun x h => by
    obtain ⟨_, _, _, _, hp, h3, h4⟩ := hx x h
    exact ⟨hp.1, hp.2, h3, h4⟩)
  refine hr.bind (Ev.ite (fun _ => Ev.now _) fun hz => ?_)
  obtain ⟨hlen, hfit⟩ := hq hz
  refine Ev.call (szStampS_to v r (by omega) hr2 (by omega)) (Ev.ite (fun _ => Ev.now _) fun hn => ?_)
  have hvl : v.length ≤ 1048576 := by
    by_cases q : r - (v.length : Int) < 0
    · rw [if_pos q] at hn; omega
    · omega
  have T := toDirChangeS_ev l hlen
  have V := toStampS_ev v hvl
  have hlen' : (l.map cvDirChange).length ≤ 1048576 := by simpa using hlen
  have hvl' : (v.map cvStamp).length ≤ 1048576 := by simpa using hvl
  have hf := fits_cvC hfit
  have S := spec_Missing_ev (l.map cvDirChange) (v.map cvStamp) hlen' hf
  have I := impl_Missing_ev (l.map cvDirChange) (v.map cvStamp) hlen' hf
  have hm := missB_len (l.map cvDirChange) (v.map cvStamp) hlen'
  have R := eqDirChangeS_self (missB (l.map cvDirChange) (v.map cvStamp)) hm
  have M := markDC_ex (l.map cvDirChange) 1 (by omega) (by omega) hlen'
  have MV := markStampS_ev (v.map cvStamp) (1 + 9 * (l.map cvDirChange).length) (by omega) hvl'
  have MG := markDC_ex (missB (l.map cvDirChange) (v.map cvStamp)) 1 (by omega) (by omega) hm
  have H := heldDC_ev 1 (missB (l.map cvDirChange) (v.map cvStamp)).length (by omega) (by omega) hm
  refine T.bind (V.bind (S.bind (T.bind (V.bind (I.bind (R.bind (Ev.yes rfl ?_)))))))
  refine T.bind ((eqDirChangeS_self _ hlen').bind (Ev.yes rfl ?_))
  refine V.bind ((eqStampS_self _ hvl').bind (Ev.yes rfl ?_))
  refine M.bind (MV.bind (Ev.no (by simp only []; omega) (R.bind ?_)))
  refine Ev.succ ?_
  simp only [laws_FnExactMissing.j0]
  refine Ev.no (by decide) (MG.bind (H.bind (Ev.no (by omega) (Ev.yes rfl (T.bind (V.bind (I.bind (R.bind (Ev.yes rfl ?_)))))))))
  exact H.bind (Ev.no (by omega) (Ev.yes rfl (Ev.now _)))

end Go.Proofs.Ytcgiegkcmofhhab.Pure
