/- The program's GoodChange answers what the reference's answers, for every change.
Conditions: none but the row's own. -/
import Derived.Test.YtmnlgdmojbhfcabFitFnExactGoodChange
namespace Go.Proofs.Ytmnlgdmojbhfcab.Pure
open Go.RowKit Go.Proofs.Ytmnlgdmojbhfcab.PFnExactGoodChange Go.Proofs.YtmnlgdmojbhfcabW.PrintWords Go.Proofs.YtmnlgdmojbhfcabW.PrintLast Go.Proofs.YtmnlgdmojbhfcabOpen
set_option linter.unusedVariables false
set_option linter.unusedSimpArgs false

/-! ### from some number of rounds on -/
theorem Ev.yes {α : Type} {c : Prop} {inst : Decidable c} {A B : Nat → Option α} {r : α} (h : c) (k : Ev A r) : Ev (fun n => @ite _ c inst (A n) (B n)) r :=
  k.congr fun n => if_pos h
theorem Ev.no {α : Type} {c : Prop} {inst : Decidable c} {A B : Nat → Option α} {r : α} (h : ¬ c) (k : Ev B r) : Ev (fun n => @ite _ c inst (A n) (B n)) r :=
  k.congr fun n => if_neg h
theorem Ev.ite {α : Type} {c : Prop} {inst : Decidable c} {A B : Nat → Option α} {r : α} (h : c → Ev A r) (k : ¬ c → Ev B r) : Ev (fun n => @ite _ c inst (A n) (B n)) r := by
  by_cases e : c
  · exact Ev.yes e (h e)
  · exact Ev.no e (k e)
theorem Ev.some {α : Type} {a r : α} (h : a = r) : Ev (fun _ => some a) r := h ▸ Ev.now a
/-- A callee without rounds. -/
theorem Ev.call {α β : Type} {g : Option α} {f : Nat → α → Option β} {a : α} {r : β} (h : g = Option.some a) (k : Ev (fun n => f n a) r) : Ev (fun n => g.bind (f n)) r := by
  refine k.congr fun n => ?_
  rw [h]; rfl
theorem Ev.tail {α : Type} {g : Nat → Option α} {r : α} (h : Ev g r) : Ev (fun n => (g n).bind fun t => Option.some t) r := h.bind (Ev.now r)
theorem Ev.succ {α : Type} {g : Nat → Option α} {r : α} (h : Ev (fun k => g (k + 1)) r) : Ev g r := Ev.step (fun _ => rfl) h
theorem wrap_nat {i : Nat} (h : i < 9000000000000000000) : wrap64 ((i : Int) + 1) = ((i + 1 : Nat) : Int) := by unfold wrap64; omega
theorem wrap_id {x : Int} (h0 : -9223372036854775808 ≤ x) (h1 : x ≤ 9223372036854775807) : wrap64 x = x := by unfold wrap64; omega
theorem bt_nat (s : ByteArray) (i : Nat) (h : i < s.size) : bt s (i : Int) = (bytesOf s)[i]'(by rw [bytesOf_length]; exact h) := by
  have := rd_bytesOf s (i : Int)
  rw [← this]; unfold rd; rw [Int.toNat_natCast, List.getD_eq_getElem?_getD, List.getElem?_eq_getElem (by rw [bytesOf_length]; exact h)]; rfl
theorem drop_bytes (s : ByteArray) (i : Nat) (h : i < s.size) : (bytesOf s).drop i = bt s (i : Int) :: (bytesOf s).drop (i + 1) := by
  rw [bt_nat s i h]; exact List.drop_eq_getElem_cons (by rw [bytesOf_length]; exact h)
theorem bytes_range (s : ByteArray) : ∀ b ∈ bytesOf s, 0 ≤ b ∧ b ≤ 255 := by
  intro b hb
  unfold bytesOf at hb
  obtain ⟨x, _, rfl⟩ := List.mem_map.1 hb
  have := x.toNat_lt
  omega
/-- A loop over a string that asks each byte. -/
theorem loop_all {l : Nat → Int → Option Bool} {p : Int → Bool} {s : ByteArray}
    (yes : ∀ i : Nat, i < s.size → p (bt s i) = true → ∀ r, Ev (fun k => l k ((i + 1 : Nat) : Int)) r → Ev (fun k => l k (i : Int)) r)
    (no : ∀ i : Nat, i < s.size → p (bt s i) = false → Ev (fun k => l k (i : Int)) false)
    (done : Ev (fun k => l k (s.size : Int)) true) :
    ∀ (d i : Nat), s.size = i + d → Ev (fun k => l k (i : Int)) (((bytesOf s).drop i).all p) := by
  intro d
  induction d with
  | zero =>
    intro i h
    obtain rfl : i = s.size := by omega
    rw [List.drop_eq_nil_of_le (by rw [bytesOf_length]; exact Nat.le_refl _)]
    exact done
  | succ d ih =>
    intro i h
    rw [drop_bytes s i (by omega), List.all_cons]
    cases hp : p (bt s i) with
    | true => rw [Bool.true_and]; exact yes i (by omega) hp _ (ih (i + 1) (by omega))
    | false => rw [Bool.false_and]; exact no i (by omega) hp
/-! ### good names -/
def pDigit (a : Int) : Bool := decide (48 ≤ a ∧ a ≤ 57)
def pLetter (a : Int) : Bool := decide (97 ≤ a ∧ a ≤ 122 ∨ 65 ≤ a ∧ a ≤ 90)
def pWord (a : Int) : Bool := pLetter a || pDigit a || decide (a = 95)
def goodName (s : ByteArray) : Bool := decide (1 ≤ s.size ∧ s.size ≤ 30) && !pDigit (bt s 0) && (bytesOf s).all pWord
theorem spec_l1Digit_eq (a : Int) : spec_l1Digit.f a = some (pDigit a) := by
  unfold spec_l1Digit.f pDigit; split <;> congr 1 <;> simp <;> omega
theorem spec_l1Letter_eq (a : Int) : spec_l1Letter.f a = some (pLetter a) := by
  unfold spec_l1Letter.f pLetter; repeat' split
  all_goals (congr 1; rw [eq_comm]; first | (apply decide_eq_true; omega) | (apply decide_eq_false; omega) | (apply decide_eq_decide.2; omega))
theorem impl_ydigit_eq (a : Int) : impl_ydigit.f a = some (pDigit a) := by
  unfold impl_ydigit.f pDigit; split <;> congr 1 <;> simp <;> omega
theorem impl_yletter_eq (a : Int) : impl_yletter.f a = some (pLetter a) := by
  unfold impl_yletter.f pLetter; repeat' split
  all_goals (congr 1; rw [eq_comm]; first | (apply decide_eq_true; omega) | (apply decide_eq_false; omega) | (apply decide_eq_decide.2; omega))
theorem impl_ywordByte_eq (a : Int) : impl_ywordByte.f a = some (pWord a) := by
  unfold impl_ywordByte.f pWord
  rw [impl_yletter_eq, Option.bind_some, impl_ydigit_eq, Option.bind_some]
  cases pLetter a <;> cases pDigit a <;> simp [BEq.beq]
theorem size_bytes_nil (s : ByteArray) : s.toList = ([] : List UInt8) ↔ s.size = 0 := by
  have h : s.toList = s.data.toList := ByteArray.toList_eq s
  rw [h]
  constructor
  · intro h; have := congrArg List.length h; simpa using this
  · intro h; apply List.eq_nil_of_length_eq_zero; simpa using h
theorem spec_GoodName_l0 (s : ByteArray) (hs : s.size ≤ 1048576) (i : Nat) (hi : i ≤ s.size) : Ev (fun k => spec_GoodName.l0 k s (i : Int)) (((bytesOf s).drop i).all pWord) := by
  refine loop_all (l := fun k i => spec_GoodName.l0 k s i) ?_ ?_ ?_ (s.size - i) i (by omega)
  · intro i h hp r hr
    refine Ev.step (fun _ => rfl) (Ev.yes (by omega) (Ev.yes (by omega) (Ev.call (spec_l1Letter_eq _) ?_)))
    rw [← wrap_nat (by omega)] at hr
    refine Ev.ite (fun _ => hr) fun h1 => Ev.call (spec_l1Digit_eq _) (Ev.ite (fun _ => hr) fun h2 => Ev.ite (fun _ => hr) fun h3 => ?_)
    exfalso
    unfold pWord at hp
    simp [h1, h2, h3] at hp
  · intro i h hp
    refine Ev.step (fun _ => rfl) (Ev.yes (by omega) (Ev.yes (by omega) (Ev.call (spec_l1Letter_eq _) ?_)))
    unfold pWord at hp
    simp only [Bool.or_eq_false_iff, decide_eq_false_iff_not] at hp
    refine Ev.no (by simp [hp.1.1]) (Ev.call (spec_l1Digit_eq _) (Ev.no (by simp [hp.1.2]) (Ev.no hp.2 (Ev.now _))))
  · exact Ev.step (fun _ => rfl) (Ev.no (by omega) (Ev.now _))
theorem spec_GoodName_ev (s : ByteArray) (hs : s.size ≤ 1048576) : Ev (fun k => spec_GoodName.f k s) (goodName s) := by
  unfold spec_GoodName.f goodName
  have H : Ev (fun k => spec_GoodName.l0 k s 0) ((bytesOf s).all pWord) := spec_GoodName_l0 s hs 0 (by omega)
  have hf : ∀ b : Bool, Ev (fun k => spec_GoodName.j0 k s b) (!b && (bytesOf s).all pWord) := by
    intro b
    cases b with
    | true => apply Ev.succ; simp only [spec_GoodName.j0, if_true, Bool.not_true, Bool.false_and]; exact Ev.now _
    | false => apply Ev.succ; simp only [spec_GoodName.j0, Bool.false_eq_true, if_false, Bool.not_false, Bool.true_and]; exact H
  refine Ev.ite (fun h => ?_) fun h => Ev.ite (fun h' => ?_) fun h' => Ev.yes (by omega) (Ev.call (spec_l1Digit_eq _) ?_)
  · rw [decide_eq_false (by omega)]; exact hf true
  · rw [decide_eq_false (by omega)]; exact hf true
  · rw [decide_eq_true (by omega), Bool.true_and]; exact hf _
theorem impl_GoodName_l0 (s : ByteArray) (hs : s.size ≤ 1048576) (i : Nat) (hi : i ≤ s.size) : Ev (fun k => impl_GoodName.l0 k s (s.size : Int) (i : Int)) (((bytesOf s).drop i).all pWord) := by
  refine loop_all (l := fun k i => impl_GoodName.l0 k s (s.size : Int) i) ?_ ?_ ?_ (s.size - i) i (by omega)
  · intro i h hp r hr
    rw [← wrap_nat (by omega)] at hr
    exact Ev.step (fun _ => rfl) (Ev.yes (by omega) (Ev.yes (by omega) (Ev.yes (by omega) (Ev.call (impl_ywordByte_eq _) (Ev.yes hp hr)))))
  · intro i h hp
    exact Ev.step (fun _ => rfl) (Ev.yes (by omega) (Ev.yes (by omega) (Ev.yes (by omega) (Ev.call (impl_ywordByte_eq _) (Ev.no (by simp [hp]) (Ev.now _))))))
  · exact Ev.step (fun _ => rfl) (Ev.no (by omega) (Ev.now _))
theorem impl_GoodName_ev (s : ByteArray) (hs : s.size ≤ 1048576) : Ev (fun k => impl_GoodName.f k s) (goodName s) := by
  unfold impl_GoodName.f goodName
  have H : Ev (fun k => impl_GoodName.l0 k s (s.size : Int) 0) ((bytesOf s).all pWord) := impl_GoodName_l0 s hs 0 (by omega)
  have hf : ∀ b : Bool, Ev (fun k => impl_GoodName.j0 k s b) (!b && (bytesOf s).all pWord) := by
    intro b
    cases b with
    | true => apply Ev.succ; simp only [impl_GoodName.j0, if_true, Bool.not_true, Bool.false_and]; exact Ev.now _
    | false => apply Ev.succ; simp only [impl_GoodName.j0, Bool.false_eq_true, if_false, Bool.not_false, Bool.true_and]; exact H
  refine Ev.ite (fun h => ?_) fun h => Ev.ite (fun h' => ?_) fun h' => ?_
  · rw [size_bytes_nil] at h; rw [decide_eq_false (by omega)]; exact hf true
  · rw [decide_eq_false (by omega)]; exact hf true
  · rw [size_bytes_nil] at h; rw [decide_eq_true (by omega), Bool.true_and]; exact Ev.yes (by omega) (Ev.call (impl_ydigit_eq _) (hf _))
/-! ### printed texts, empty texts -/
def emptyB (s : ByteArray) : Bool := decide (s.size = 0)
def pPrinted (b : Int) : Bool := decide (32 ≤ b ∧ b ≤ 126)
def printed (s : ByteArray) : Bool := (bytesOf s).all pPrinted
theorem nil_iff (s : ByteArray) : s.toList = ([] : List UInt8) ↔ emptyB s = true := by rw [size_bytes_nil]; simp [emptyB]
theorem nil_beq (s : ByteArray) : (s.toList == ([] : List UInt8)) = emptyB s := by
  rw [Bool.eq_iff_iff, beq_iff_eq, nil_iff]
theorem nil_bne (s : ByteArray) : (s.toList != ([] : List UInt8)) = !emptyB s := by
  rw [bne, nil_beq]
theorem spec_l1Printed_ev (s : ByteArray) (hs : s.size ≤ 1048576) : Ev (fun k => spec_l1Printed.f k s) (printed s) := by
  unfold spec_l1Printed.f printed
  refine loop_all (l := fun k i => spec_l1Printed.l0 k s i) (p := pPrinted) ?_ ?_ ?_ s.size 0 (by omega)
  · intro i h hp r hr
    have hp := of_decide_eq_true hp
    refine Ev.succ ?_
    simp only [spec_l1Printed.l0]
    rw [← wrap_nat (by omega)] at hr
    exact Ev.yes (by omega) (Ev.yes (by omega) (Ev.no (by omega) (Ev.no (by omega) hr)))
  · intro i h hp
    have hp := of_decide_eq_false hp
    refine Ev.succ ?_
    simp only [spec_l1Printed.l0]
    exact Ev.yes (by omega) (Ev.yes (by omega) (Ev.ite (fun _ => Ev.now _) fun h1 => Ev.ite (fun _ => Ev.now _) fun h2 => by omega))
  · refine Ev.succ ?_
    simp only [spec_l1Printed.l0]
    exact Ev.no (by omega) (Ev.now _)
theorem impl_yprinted_ev (s : ByteArray) (lo hi : Nat) (hs : s.size ≤ 1048576) : Ev (fun k => impl_yprinted.f k s (lo : Int) (hi : Int)) (decide (lo ≤ s.size ∧ s.size ≤ hi) && printed s) := by
  have hf : ∀ b : Bool, b = decide (¬ (lo ≤ s.size ∧ s.size ≤ hi)) → Ev (fun k => impl_yprinted.j0 k s b) (decide (lo ≤ s.size ∧ s.size ≤ hi) && printed s) := by
    intro b hb
    refine Ev.succ ?_
    simp only [impl_yprinted.j0]
    refine Ev.ite (fun h => ?_) fun h => ?_
    · rw [hb] at h
      rw [decide_eq_false (of_decide_eq_true h), Bool.false_and]; exact Ev.now _
    · have h' : lo ≤ s.size ∧ s.size ≤ hi := Classical.byContradiction fun z => h (by rw [hb]; exact decide_eq_true z)
      rw [decide_eq_true h', Bool.true_and]
      unfold printed
      refine loop_all (l := fun k i => impl_yprinted.l0 k s (s.size : Int) i) (p := pPrinted) ?_ ?_ ?_ s.size 0 (by omega)
      · intro i h hp r hr
        have hp := of_decide_eq_true hp
        refine Ev.succ ?_
        simp only [impl_yprinted.l0]
        rw [← wrap_nat (by omega)] at hr
        exact Ev.yes (by omega) (Ev.yes (by omega) (Ev.yes (by omega) (Ev.no (by omega) (Ev.no (by omega) hr))))
      · intro i h hp
        have hp := of_decide_eq_false hp
        refine Ev.succ ?_
        simp only [impl_yprinted.l0]
        exact Ev.yes (by omega) (Ev.yes (by omega) (Ev.yes (by omega) (Ev.ite (fun _ => Ev.now _) fun h1 => Ev.ite (fun _ => Ev.now _) fun h2 => by omega)))
      · refine Ev.succ ?_
        simp only [impl_yprinted.l0]
        exact Ev.no (by omega) (Ev.now _)
  unfold impl_yprinted.f
  refine Ev.ite (fun h => hf _ ?_) fun h => hf _ ?_
  · rw [decide_eq_true (by omega)]
  · rw [decide_eq_decide]; omega
/-! ### lists of numbers, and what the law's own functions do with bytes -/
theorem rd_nat (l : List Int) (i : Nat) (h : i < l.length) : rd l (i : Int) = l[i] := by
  unfold rd; rw [Int.toNat_natCast, List.getD_eq_getElem?_getD, List.getElem?_eq_getElem h]; rfl
theorem set_step {β : Type} (xs : List β) (z : β) (i : Nat) (h : i < xs.length) :
    (xs.take i ++ List.replicate (xs.length - i) z).set i xs[i] = xs.take (i + 1) ++ List.replicate (xs.length - (i + 1)) z := by
  obtain ⟨d, hd⟩ : ∃ d, xs.length - i = d + 1 := ⟨xs.length - i - 1, by omega⟩
  rw [hd, show xs.length - (i + 1) = d by omega, List.replicate_succ, List.set_append_right _ _ (by simp; omega)]
  rw [show i - (xs.take i).length = 0 by simp; omega, List.set_cons_zero, List.take_succ_eq_append_getElem h, List.append_assoc]; rfl
theorem fill_len {β : Type} (xs : List β) (z : β) (i : Nat) (h : i ≤ xs.length) : (xs.take i ++ List.replicate (xs.length - i) z).length = xs.length := by simp; omega
/-! ### a byte looked for -/
theorem indexByte_any (l : List UInt8) (c : UInt8) : decide (Lib.indexByte l c ≥ 0) = l.any (· == c) ∧ (-1 ≤ Lib.indexByte l c) := by
  induction l with
  | nil => exact ⟨rfl, by simp [Lib.indexByte]⟩
  | cons b l ih =>
    unfold Lib.indexByte
    rw [List.any_cons]
    by_cases h : (b == c) = true
    · rw [if_pos h, h]; exact ⟨rfl, by omega⟩
    · rw [if_neg h, Bool.eq_false_iff.2 h, Bool.false_or]
      by_cases h2 : (Lib.indexByte l c == -1) = true
      · rw [if_pos h2]
        rw [beq_iff_eq] at h2
        refine ⟨?_, by omega⟩
        rw [← ih.1, h2]
      · rw [if_neg h2]
        have h3 : Lib.indexByte l c ≠ -1 := fun z => h2 (beq_iff_eq.2 z)
        refine ⟨?_, by omega⟩
        rw [← ih.1, decide_eq_decide]
        omega
def hasByte (s : ByteArray) (c : Int) : Bool := (bytesOf s).any (· == c)
theorem hasByte_eq (s : ByteArray) (c : UInt8) : decide (Lib.indexByte s.data.toList c ≥ 0) = hasByte s (c.toNat : Int) := by
  rw [(indexByte_any _ _).1]
  unfold hasByte bytesOf
  rw [List.any_map]
  congr 1
  funext x
  simp only [Function.comp]
  rw [Bool.eq_iff_iff, beq_iff_eq, beq_iff_eq]
  exact ⟨fun h => by rw [h], fun h => UInt8.toNat_inj.1 (by omega)⟩
theorem strings_Contains_eq (s t : ByteArray) (h : t.size = 1) : strings_Contains.f s t = some (hasByte s (bt t 0)) := by
  unfold strings_Contains.f strings_Index.f stringslite_Index.f
  rw [if_pos h]
  simp only [Option.bind_some]
  rw [hasByte_eq]
  congr 2
  have h0 := bt_range t 0
  have h2 : (bt t 0).toNat < 256 := by omega
  rw [show (bt t 0).toNat.toUInt8.toNat = (bt t 0).toNat from Nat.mod_eq_of_lt h2]
  omega
/-! ### what is left of the law's measure -/
def szA (m a : Int) : Int := if m - a < 0 then -1 else m - a
theorem szA_neg {m a : Int} : ¬ szA m a < 0 ↔ a ≤ m := by unfold szA; split <;> omega
theorem szA_ok {m a : Int} (h : ¬ szA m a < 0) : szA m a = m - a ∧ a ≤ m := by
  unfold szA at *
  by_cases e : m - a < 0
  · rw [if_pos e] at h; omega
  · rw [if_neg e]; omega
/-! ### good changes -/
def partB (n : Nat) (a t : ByteArray) : Bool := goodName a && (decide (1 ≤ t.size ∧ t.size ≤ n) && printed t)
def changeCore (p v : Bool) (kd up : Int) (pa pt at_ tx : ByteArray) : Bool :=
  if kd = 1 then v && decide (0 ≤ up ∧ up ≤ 1000) && partB 50 pa pt && !hasByte pt 126
  else if kd = 2 ∨ kd = 3 then p && partB 200 at_ tx
  else if kd = 4 then p && v
  else false
def goodChange (tm who kd uid up : Int) (pa pt at_ tx : ByteArray) : Bool :=
  decide (1 ≤ tm ∧ tm ≤ 1000000000 ∧ 0 ≤ who ∧ who ≤ 99 ∧ 1 ≤ uid ∧ uid ≤ 1000) && changeCore (decide (up = 0) && (emptyB pa && emptyB pt)) (emptyB at_ && emptyB tx) kd up pa pt at_ tx
theorem spec_l4Tilde_ev (s : ByteArray) (hs : s.size ≤ 1048576) : Ev (fun k => spec_l4Tilde.f k s) (hasByte s 126) := by
  unfold spec_l4Tilde.f hasByte
  have H : ∀ (d i : Nat), s.size = i + d → Ev (fun k => spec_l4Tilde.l0 k s (i : Int)) (((bytesOf s).drop i).any (· == 126)) := by
    intro d
    induction d with
    | zero =>
      intro i h
      obtain rfl : i = s.size := by omega
      rw [List.drop_eq_nil_of_le (by rw [bytesOf_length]; exact Nat.le_refl _)]
      refine Ev.succ ?_
      simp only [spec_l4Tilde.l0]
      exact Ev.no (by omega) (Ev.now _)
    | succ d ih =>
      intro i h
      rw [drop_bytes s i (by omega), List.any_cons]
      refine Ev.succ ?_
      simp only [spec_l4Tilde.l0]
      refine Ev.yes (by omega) (Ev.yes (by omega) (Ev.ite (fun e => Ev.some ?_) fun e => ?_))
      · rw [beq_iff_eq.2 e]; rfl
      · rw [beq_eq_false_iff_ne.2 e, Bool.false_or, wrap_nat (by omega)]
        exact ih (i + 1) (by omega)
  exact H s.size 0 (by omega)
theorem part_spec (a t : ByteArray) (n : Nat) (ha : a.size ≤ 1048576) (ht : t.size ≤ 1048576) {z : Bool} {R : Nat → Option Bool} (h : Ev R z) :
    Ev (fun k => (spec_GoodName.f k a).bind fun u => if u = true then (if (t.size : Int) ≥ 1 then (if (t.size : Int) ≤ (n : Int) then ((spec_l1Printed.f k t).bind fun w => if w = true then R k else some false) else some false) else some false) else some false) (partB n a t && z) := by
  unfold partB
  refine (spec_GoodName_ev a ha).bind (Ev.ite (fun g => ?_) fun g => Ev.some (by rw [Bool.eq_false_iff.2 g]; rfl))
  rw [g, Bool.true_and]
  refine Ev.ite (fun h1 => Ev.ite (fun h2 => ?_) fun h2 => Ev.some ?_) fun h1 => Ev.some ?_
  · rw [decide_eq_true (by omega), Bool.true_and]
    refine (spec_l1Printed_ev t ht).bind (Ev.ite (fun g' => ?_) fun g' => Ev.some (by rw [Bool.eq_false_iff.2 g']; rfl))
    rw [g', Bool.true_and]; exact h
  · rw [decide_eq_false (by omega)]; rfl
  · rw [decide_eq_false (by omega)]; rfl
theorem spec_GoodChange_j2 (p v : Bool) (tm who kd uid up : Int) (pa pt at_ tx : ByteArray) (h1 : pa.size ≤ 1048576) (h2 : pt.size ≤ 1048576) (h3 : at_.size ≤ 1048576) (h4 : tx.size ≤ 1048576) :
    Ev (fun k => spec_GoodChange.j2 k p v tm who kd uid up pa pt at_ tx) (changeCore p v kd up pa pt at_ tx) := by
  have J : ∀ b : Bool, kd ≠ 1 → b = decide (kd = 2 ∨ kd = 3) → Ev (fun k => spec_GoodChange.j3 k p v kd b tm who kd uid up pa pt at_ tx) (changeCore p v kd up pa pt at_ tx) := by
    intro b hk hb
    refine Ev.succ ?_
    simp only [spec_GoodChange.j3]
    unfold changeCore
    rw [if_neg hk]
    refine Ev.ite (fun h => ?_) fun h => ?_
    · rw [hb] at h
      rw [if_pos (of_decide_eq_true h)]
      refine Ev.ite (fun hp => ?_) fun hp => Ev.some (by rw [Bool.eq_false_iff.2 hp]; rfl)
      rw [hp, Bool.true_and]
      unfold partB
      refine (spec_GoodName_ev at_ h3).bind (Ev.ite (fun g => ?_) fun g => Ev.some (by rw [Bool.eq_false_iff.2 g]; rfl))
      rw [g, Bool.true_and]
      refine Ev.ite (fun h1 => Ev.ite (fun h2 => ?_) fun h2 => Ev.some ?_) fun h1 => Ev.some ?_
      · rw [decide_eq_true (by omega), Bool.true_and]; exact Ev.tail (spec_l1Printed_ev tx h4)
      · rw [decide_eq_false (by omega)]; rfl
      · rw [decide_eq_false (by omega)]; rfl
    · have h' : ¬ (kd = 2 ∨ kd = 3) := fun z => h (by rw [hb]; exact decide_eq_true z)
      rw [if_neg h']
      refine Ev.ite (fun e => ?_) fun e => Ev.some (by rw [if_neg e])
      rw [if_pos e]
      refine Ev.ite (fun hp => Ev.some (by rw [hp]; rfl)) fun hp => Ev.some (by rw [Bool.eq_false_iff.2 hp]; rfl)
  refine Ev.succ ?_
  simp only [spec_GoodChange.j2]
  refine Ev.ite (fun e => ?_) fun e => Ev.ite (fun e2 => J _ e ?_) fun e2 => J _ e ?_
  · unfold changeCore
    rw [if_pos e]
    refine Ev.ite (fun hv => ?_) fun hv => Ev.some (by rw [Bool.eq_false_iff.2 hv]; rfl)
    rw [hv]
    refine Ev.ite (fun a => Ev.ite (fun b => ?_) fun b => Ev.some ?_) fun a => Ev.some ?_
    · rw [decide_eq_true (by omega), Bool.true_and, Bool.true_and]
      exact part_spec pa pt 50 h1 h2 ((spec_l4Tilde_ev pt h2).bind (Ev.now _))
    · rw [decide_eq_false (by omega)]; rfl
    · rw [decide_eq_false (by omega)]; rfl
  · rw [Bool.eq_iff_iff]; simp; omega
  · rw [Bool.eq_iff_iff]; simp; omega
theorem impl_GoodChange_j2 (p v : Bool) (tm who kd uid up : Int) (pa pt at_ tx : ByteArray) (h1 : pa.size ≤ 1048576) (h2 : pt.size ≤ 1048576) (h3 : at_.size ≤ 1048576) (h4 : tx.size ≤ 1048576) :
    Ev (fun k => impl_GoodChange.j2 k p v tm who kd uid up pa pt at_ tx) (changeCore p v kd up pa pt at_ tx) := by
  have J : ∀ b : Bool, kd ≠ 1 → b = decide (kd = 2 ∨ kd = 3) → Ev (fun k => impl_GoodChange.j3 k p v kd b tm who kd uid up pa pt at_ tx) (changeCore p v kd up pa pt at_ tx) := by
    intro b hk hb
    refine Ev.succ ?_
    simp only [impl_GoodChange.j3]
    unfold changeCore
    rw [if_neg hk]
    refine Ev.ite (fun h => ?_) fun h => ?_
    · rw [hb] at h
      rw [if_pos (of_decide_eq_true h)]
      refine Ev.ite (fun hp => ?_) fun hp => Ev.some (by rw [Bool.eq_false_iff.2 hp]; rfl)
      rw [hp, Bool.true_and]
      unfold partB
      refine (impl_GoodName_ev at_ h3).bind (Ev.ite (fun g => ?_) fun g => Ev.some (by rw [Bool.eq_false_iff.2 g]; rfl))
      rw [g, Bool.true_and]
      exact Ev.tail (impl_yprinted_ev tx 1 200 h4)
    · have h' : ¬ (kd = 2 ∨ kd = 3) := fun z => h (by rw [hb]; exact decide_eq_true z)
      rw [if_neg h']
      refine Ev.ite (fun e => ?_) fun e => Ev.some (by rw [if_neg e])
      rw [if_pos e]
      refine Ev.ite (fun hp => Ev.some (by rw [hp]; rfl)) fun hp => Ev.some (by rw [Bool.eq_false_iff.2 hp]; rfl)
  refine Ev.succ ?_
  simp only [impl_GoodChange.j2]
  refine Ev.ite (fun e => ?_) fun e => Ev.ite (fun e2 => J _ e ?_) fun e2 => J _ e ?_
  · unfold changeCore
    rw [if_pos e]
    refine Ev.ite (fun hv => ?_) fun hv => Ev.some (by rw [Bool.eq_false_iff.2 hv]; rfl)
    rw [hv]
    refine Ev.ite (fun a => Ev.ite (fun b => ?_) fun b => Ev.some ?_) fun a => Ev.some ?_
    · rw [decide_eq_true (by omega), Bool.true_and, Bool.true_and]
      have P : Ev (fun k => impl_ygoodPart.f k pa pt 50) (partB 50 pa pt) := by
        unfold impl_ygoodPart.f partB
        refine (impl_GoodName_ev pa h1).bind (Ev.ite (fun g => ?_) fun g => Ev.some (by rw [Bool.eq_false_iff.2 g]; rfl))
        rw [g, Bool.true_and]
        exact Ev.tail (impl_yprinted_ev pt 1 50 h2)
      refine P.bind (Ev.ite (fun g => ?_) fun g => Ev.some (by rw [Bool.eq_false_iff.2 g]; rfl))
      rw [g, Bool.true_and]
      exact Ev.call (strings_Contains_eq pt _ rfl) (Ev.now _)
    · rw [decide_eq_false (by omega)]; rfl
    · rw [decide_eq_false (by omega)]; rfl
  · rw [Bool.eq_iff_iff]; simp; omega
  · rw [Bool.eq_iff_iff]; simp; omega
theorem spec_GoodChange_ev (tm who kd uid up : Int) (pa pt at_ tx : ByteArray) (h1 : pa.size ≤ 1048576) (h2 : pt.size ≤ 1048576) (h3 : at_.size ≤ 1048576) (h4 : tx.size ≤ 1048576) :
    Ev (fun k => spec_GoodChange.f k tm who kd uid up pa pt at_ tx) (goodChange tm who kd uid up pa pt at_ tx) := by
  have J1 : ∀ p : Bool, Ev (fun k => spec_GoodChange.j1 k p tm who kd uid up pa pt at_ tx) (changeCore p (emptyB at_ && emptyB tx) kd up pa pt at_ tx) := by
    intro p
    refine Ev.succ ?_
    simp only [spec_GoodChange.j1]
    refine Ev.ite (fun h => ?_) fun h => ?_
    · rw [nil_iff] at h
      rw [nil_beq, h, Bool.true_and]; exact spec_GoodChange_j2 _ _ _ _ _ _ _ _ _ _ _ h1 h2 h3 h4
    · rw [nil_iff, Bool.not_eq_true] at h
      rw [h, Bool.false_and]; exact spec_GoodChange_j2 _ _ _ _ _ _ _ _ _ _ _ h1 h2 h3 h4
  have J0 : ∀ b : Bool, (b = true ↔ ¬ (1 ≤ tm ∧ tm ≤ 1000000000 ∧ 0 ≤ who ∧ who ≤ 99 ∧ 1 ≤ uid ∧ uid ≤ 1000)) → Ev (fun k => spec_GoodChange.j0 k b tm who kd uid up pa pt at_ tx) (goodChange tm who kd uid up pa pt at_ tx) := by
    intro b hb
    refine Ev.succ ?_
    simp only [spec_GoodChange.j0]
    unfold goodChange
    refine Ev.ite (fun h => Ev.some ?_) fun h => ?_
    · rw [decide_eq_false (hb.1 h)]; rfl
    · rw [decide_eq_true (Classical.byContradiction fun z => h (hb.2 z)), Bool.true_and]
      refine Ev.ite (fun e => ?_) fun e => ?_
      · rw [decide_eq_true e, Bool.true_and, nil_beq, nil_beq]; exact J1 _
      · rw [decide_eq_false e, Bool.false_and]; exact J1 _
  unfold spec_GoodChange.f
  refine Ev.ite (fun a => J0 true ⟨fun _ => by omega, fun _ => rfl⟩) fun a => ?_
  refine Ev.ite (fun a => J0 true ⟨fun _ => by omega, fun _ => rfl⟩) fun a => ?_
  refine Ev.ite (fun a => J0 true ⟨fun _ => by omega, fun _ => rfl⟩) fun a => ?_
  refine Ev.ite (fun a => J0 true ⟨fun _ => by omega, fun _ => rfl⟩) fun a => ?_
  refine Ev.ite (fun a => J0 true ⟨fun _ => by omega, fun _ => rfl⟩) fun a => J0 _ ?_
  rw [decide_eq_true_eq]; omega
theorem impl_GoodChange_ev (tm who kd uid up : Int) (pa pt at_ tx : ByteArray) (h1 : pa.size ≤ 1048576) (h2 : pt.size ≤ 1048576) (h3 : at_.size ≤ 1048576) (h4 : tx.size ≤ 1048576) :
    Ev (fun k => impl_GoodChange.f k tm who kd uid up pa pt at_ tx) (goodChange tm who kd uid up pa pt at_ tx) := by
  have J1 : ∀ p : Bool, Ev (fun k => impl_GoodChange.j1 k p tm who kd uid up pa pt at_ tx) (changeCore p (emptyB at_ && emptyB tx) kd up pa pt at_ tx) := by
    intro p
    refine Ev.succ ?_
    simp only [impl_GoodChange.j1]
    refine Ev.ite (fun h => ?_) fun h => ?_
    · rw [nil_iff] at h
      rw [nil_beq, h, Bool.true_and]; exact impl_GoodChange_j2 _ _ _ _ _ _ _ _ _ _ _ h1 h2 h3 h4
    · rw [nil_iff, Bool.not_eq_true] at h
      rw [h, Bool.false_and]; exact impl_GoodChange_j2 _ _ _ _ _ _ _ _ _ _ _ h1 h2 h3 h4
  have J0 : ∀ b : Bool, (b = true ↔ ¬ (1 ≤ tm ∧ tm ≤ 1000000000 ∧ 0 ≤ who ∧ who ≤ 99 ∧ 1 ≤ uid ∧ uid ≤ 1000)) → Ev (fun k => impl_GoodChange.j0 k b tm who kd uid up pa pt at_ tx) (goodChange tm who kd uid up pa pt at_ tx) := by
    intro b hb
    refine Ev.succ ?_
    simp only [impl_GoodChange.j0]
    unfold goodChange
    refine Ev.ite (fun h => Ev.some ?_) fun h => ?_
    · rw [decide_eq_false (hb.1 h)]; rfl
    · rw [decide_eq_true (Classical.byContradiction fun z => h (hb.2 z)), Bool.true_and]
      refine Ev.ite (fun e => ?_) fun e => ?_
      · rw [decide_eq_true e, Bool.true_and, nil_beq, nil_beq]; exact J1 _
      · rw [decide_eq_false e, Bool.false_and]; exact J1 _
  unfold impl_GoodChange.f
  refine Ev.ite (fun a => J0 true ⟨fun _ => by omega, fun _ => rfl⟩) fun a => ?_
  refine Ev.ite (fun a => J0 true ⟨fun _ => by omega, fun _ => rfl⟩) fun a => ?_
  refine Ev.ite (fun a => J0 true ⟨fun _ => by omega, fun _ => rfl⟩) fun a => ?_
  refine Ev.ite (fun a => J0 true ⟨fun _ => by omega, fun _ => rfl⟩) fun a => ?_
  refine Ev.ite (fun a => J0 true ⟨fun _ => by omega, fun _ => rfl⟩) fun a => J0 _ ?_
  rw [decide_eq_true_eq]; omega
theorem FnExactGoodChange : laws_FnExactGoodChange.Pure := by
  intro x hx
  obtain ⟨_, _, _, _, hp, h3, h4⟩ := hx
  obtain ⟨h1, h2⟩ := hp
  apply Ev.rounds
  unfold laws_FnExactGoodChange.f
  have S : ∃ r, laws_szDirChange.f x.f0.f0 x.f0.f1 x.f1 x.f2 x.f3 x.f4.f0 x.f4.f1 x.f5 x.f6 1048576 = some r ∧ (¬ r < 0 → x.f4.f0.size ≤ 1048576 ∧ x.f4.f1.size ≤ 1048576 ∧ x.f5.size ≤ 1048576 ∧ x.f6.size ≤ 1048576) := by
    simp only [laws_szDirChange.f, laws_szPart.f, wrap64]
    repeat' split
    all_goals first | exact ⟨_, rfl, by omega⟩ | (simp only [Option.bind_some]; repeat' split) 
    all_goals exact ⟨_, rfl, by omega⟩
  obtain ⟨r, hr, hq⟩ := S
  refine Ev.call hr (Ev.ite (fun _ => Ev.now _) fun hz => ?_)
  obtain ⟨s1, s2, s3, s4⟩ := hq hz
  simp only [laws_toDirChange.f, laws_toStamp.f, laws_toPart.f, Option.bind_some]
  exact (spec_GoodChange_ev _ _ _ _ _ _ _ _ _ s1 s2 s3 s4).bind ((impl_GoodChange_ev _ _ _ _ _ _ _ _ _ s1 s2 s3 s4).bind (Ev.no (by simp) (Ev.now _)))

end Go.Proofs.Ytmnlgdmojbhfcab.Pure
