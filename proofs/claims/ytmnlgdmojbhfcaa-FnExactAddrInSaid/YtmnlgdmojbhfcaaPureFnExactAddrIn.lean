/- The program's AddrIn answers what the reference's answers, for all pairs of atoms.
Conditions: none but the row's own. -/
import Derived.Test.YtmnlgdmojbhfcaaFitFnExactAddrIn
namespace Go.Proofs.Ytmnlgdmojbhfcaa.Pure
open Go.RowKit Go.Proofs.Ytmnlgdmojbhfcaa.PFnExactAddrIn Go.Proofs.YtmnlgdmojbhfcaaW.PrintWords Go.Proofs.YtmnlgdmojbhfcaaW.PrintLast Go.Proofs.YtmnlgdmojbhfcaaOpen
set_option linter.unusedVariables false
set_option linter.unusedSimpArgs false

/-! ### from some number of rounds on -/
theorem Ev.yes {α : Type} {c : Prop} {inst : Decidable c} {A B : Nat → Option α} {r : α} (h : c) (k : Ev A r) : Ev (fun n => @ite _ c inst (A n) (B n)) r :=
  k.congr fun n => if_pos h
theorem Ev.no {α : Type} {c : Prop} {inst : Decidable c} {A B : Nat → Option α} {r : α} (h : ¬ c) (k : Ev B r) : Ev (fun n => @ite _ c inst (A n) (B n)) r :=
  k.congr fun n => if_neg h
theorem Ev.ite {α : Type} {c : Prop} {inst : Decidable c} {A B : Nat → Option α} {r : α} (h : c → Ev A r) (k : ¬ c → Ev B r) : Ev (fun n => @ite _ c inst (A n) (B n)) r := by
  by_cases e : c
  · exact Ev.yes e (h e)
  · exact Ev.no e (k e)
theorem Ev.some {α : Type} {a r : α} (h : a = r) : Ev (fun _ => some a) r := h ▸ Ev.now a
/-- A callee without rounds. -/
theorem Ev.call {α β : Type} {g : Option α} {f : Nat → α → Option β} {a : α} {r : β} (h : g = Option.some a) (k : Ev (fun n => f n a) r) : Ev (fun n => g.bind (f n)) r := by
  refine k.congr fun n => ?_
  rw [h]; rfl
theorem Ev.tail {α : Type} {g : Nat → Option α} {r : α} (h : Ev g r) : Ev (fun n => (g n).bind fun t => Option.some t) r := h.bind (Ev.now r)
theorem Ev.succ {α : Type} {g : Nat → Option α} {r : α} (h : Ev (fun k => g (k + 1)) r) : Ev g r := Ev.step (fun _ => rfl) h
theorem wrap_nat {i : Nat} (h : i < 9000000000000000000) : wrap64 ((i : Int) + 1) = ((i + 1 : Nat) : Int) := by unfold wrap64; omega
theorem wrap_id {x : Int} (h0 : -9223372036854775808 ≤ x) (h1 : x ≤ 9223372036854775807) : wrap64 x = x := by unfold wrap64; omega
theorem bt_nat (s : ByteArray) (i : Nat) (h : i < s.size) : bt s (i : Int) = (bytesOf s)[i]'(by rw [bytesOf_length]; exact h) := by
  have := rd_bytesOf s (i : Int)
  rw [← this]; unfold rd; rw [Int.toNat_natCast, List.getD_eq_getElem?_getD, List.getElem?_eq_getElem (by rw [bytesOf_length]; exact h)]; rfl
theorem drop_bytes (s : ByteArray) (i : Nat) (h : i < s.size) : (bytesOf s).drop i = bt s (i : Int) :: (bytesOf s).drop (i + 1) := by
  rw [bt_nat s i h]; exact List.drop_eq_getElem_cons (by rw [bytesOf_length]; exact h)
theorem bytes_range (s : ByteArray) : ∀ b ∈ bytesOf s, 0 ≤ b ∧ b ≤ 255 := by
  intro b hb
  unfold bytesOf at hb
  obtain ⟨x, _, rfl⟩ := List.mem_map.1 hb
  have := x.toNat_lt
  omega
/-- A loop over a string that asks each byte. -/
theorem loop_all {l : Nat → Int → Option Bool} {p : Int → Bool} {s : ByteArray}
    (yes : ∀ i : Nat, i < s.size → p (bt s i) = true → ∀ r, Ev (fun k => l k ((i + 1 : Nat) : Int)) r → Ev (fun k => l k (i : Int)) r)
    (no : ∀ i : Nat, i < s.size → p (bt s i) = false → Ev (fun k => l k (i : Int)) false)
    (done : Ev (fun k => l k (s.size : Int)) true) :
    ∀ (d i : Nat), s.size = i + d → Ev (fun k => l k (i : Int)) (((bytesOf s).drop i).all p) := by
  intro d
  induction d with
  | zero =>
    intro i h
    obtain rfl : i = s.size := by omega
    rw [List.drop_eq_nil_of_le (by rw [bytesOf_length]; exact Nat.le_refl _)]
    exact done
  | succ d ih =>
    intro i h
    rw [drop_bytes s i (by omega), List.all_cons]
    cases hp : p (bt s i) with
    | true => rw [Bool.true_and]; exact yes i (by omega) hp _ (ih (i + 1) (by omega))
    | false => rw [Bool.false_and]; exact no i (by omega) hp
/-! ### good names -/
def pDigit (a : Int) : Bool := decide (48 ≤ a ∧ a ≤ 57)
def pLetter (a : Int) : Bool := decide (97 ≤ a ∧ a ≤ 122 ∨ 65 ≤ a ∧ a ≤ 90)
def pWord (a : Int) : Bool := pLetter a || pDigit a || decide (a = 95)
def goodName (s : ByteArray) : Bool := decide (1 ≤ s.size ∧ s.size ≤ 30) && !pDigit (bt s 0) && (bytesOf s).all pWord
theorem spec_l1Digit_eq (a : Int) : spec_l1Digit.f a = some (pDigit a) := by
  unfold spec_l1Digit.f pDigit; split <;> congr 1 <;> simp <;> omega
theorem spec_l1Letter_eq (a : Int) : spec_l1Letter.f a = some (pLetter a) := by
  unfold spec_l1Letter.f pLetter; repeat' split
  all_goals (congr 1; rw [eq_comm]; first | (apply decide_eq_true; omega) | (apply decide_eq_false; omega) | (apply decide_eq_decide.2; omega))
theorem impl_ydigit_eq (a : Int) : impl_ydigit.f a = some (pDigit a) := by
  unfold impl_ydigit.f pDigit; split <;> congr 1 <;> simp <;> omega
theorem impl_yletter_eq (a : Int) : impl_yletter.f a = some (pLetter a) := by
  unfold impl_yletter.f pLetter; repeat' split
  all_goals (congr 1; rw [eq_comm]; first | (apply decide_eq_true; omega) | (apply decide_eq_false; omega) | (apply decide_eq_decide.2; omega))
theorem impl_ywordByte_eq (a : Int) : impl_ywordByte.f a = some (pWord a) := by
  unfold impl_ywordByte.f pWord
  rw [impl_yletter_eq, Option.bind_some, impl_ydigit_eq, Option.bind_some]
  cases pLetter a <;> cases pDigit a <;> simp [BEq.beq]
theorem size_bytes_nil (s : ByteArray) : s.toList = ([] : List UInt8) ↔ s.size = 0 := by
  have h : s.toList = s.data.toList := ByteArray.toList_eq s
  rw [h]
  constructor
  · intro h; have := congrArg List.length h; simpa using this
  · intro h; apply List.eq_nil_of_length_eq_zero; simpa using h
theorem spec_GoodName_l0 (s : ByteArray) (hs : s.size ≤ 1048576) (i : Nat) (hi : i ≤ s.size) : Ev (fun k => spec_GoodName.l0 k s (i : Int)) (((bytesOf s).drop i).all pWord) := by
  refine loop_all (l := fun k i => spec_GoodName.l0 k s i) ?_ ?_ ?_ (s.size - i) i (by omega)
  · intro i h hp r hr
    refine Ev.step (fun _ => rfl) (Ev.yes (by omega) (Ev.yes (by omega) (Ev.call (spec_l1Letter_eq _) ?_)))
    rw [← wrap_nat (by omega)] at hr
    refine Ev.ite (fun _ => hr) fun h1 => Ev.call (spec_l1Digit_eq _) (Ev.ite (fun _ => hr) fun h2 => Ev.ite (fun _ => hr) fun h3 => ?_)
    exfalso
    unfold pWord at hp
    simp [h1, h2, h3] at hp
  · intro i h hp
    refine Ev.step (fun _ => rfl) (Ev.yes (by omega) (Ev.yes (by omega) (Ev.call (spec_l1Letter_eq _) ?_)))
    unfold pWord at hp
    simp only [Bool.or_eq_false_iff, decide_eq_false_iff_not] at hp
    refine Ev.no (by simp [hp.1.1]) (Ev.call (spec_l1Digit_eq _) (Ev.no (by simp [hp.1.2]) (Ev.no hp.2 (Ev.now _))))
  · exact Ev.step (fun _ => rfl) (Ev.no (by omega) (Ev.now _))
theorem spec_GoodName_ev (s : ByteArray) (hs : s.size ≤ 1048576) : Ev (fun k => spec_GoodName.f k s) (goodName s) := by
  unfold spec_GoodName.f goodName
  have H : Ev (fun k => spec_GoodName.l0 k s 0) ((bytesOf s).all pWord) := spec_GoodName_l0 s hs 0 (by omega)
  have hf : ∀ b : Bool, Ev (fun k => spec_GoodName.j0 k s b) (!b && (bytesOf s).all pWord) := by
    intro b
    cases b with
    | true => apply Ev.succ; simp only [spec_GoodName.j0, if_true, Bool.not_true, Bool.false_and]; exact Ev.now _
    | false => apply Ev.succ; simp only [spec_GoodName.j0, Bool.false_eq_true, if_false, Bool.not_false, Bool.true_and]; exact H
  refine Ev.ite (fun h => ?_) fun h => Ev.ite (fun h' => ?_) fun h' => Ev.yes (by omega) (Ev.call (spec_l1Digit_eq _) ?_)
  · rw [decide_eq_false (by omega)]; exact hf true
  · rw [decide_eq_false (by omega)]; exact hf true
  · rw [decide_eq_true (by omega), Bool.true_and]; exact hf _
theorem impl_GoodName_l0 (s : ByteArray) (hs : s.size ≤ 1048576) (i : Nat) (hi : i ≤ s.size) : Ev (fun k => impl_GoodName.l0 k s (s.size : Int) (i : Int)) (((bytesOf s).drop i).all pWord) := by
  refine loop_all (l := fun k i => impl_GoodName.l0 k s (s.size : Int) i) ?_ ?_ ?_ (s.size - i) i (by omega)
  · intro i h hp r hr
    rw [← wrap_nat (by omega)] at hr
    exact Ev.step (fun _ => rfl) (Ev.yes (by omega) (Ev.yes (by omega) (Ev.yes (by omega) (Ev.call (impl_ywordByte_eq _) (Ev.yes hp hr)))))
  · intro i h hp
    exact Ev.step (fun _ => rfl) (Ev.yes (by omega) (Ev.yes (by omega) (Ev.yes (by omega) (Ev.call (impl_ywordByte_eq _) (Ev.no (by simp [hp]) (Ev.now _))))))
  · exact Ev.step (fun _ => rfl) (Ev.no (by omega) (Ev.now _))
theorem impl_GoodName_ev (s : ByteArray) (hs : s.size ≤ 1048576) : Ev (fun k => impl_GoodName.f k s) (goodName s) := by
  unfold impl_GoodName.f goodName
  have H : Ev (fun k => impl_GoodName.l0 k s (s.size : Int) 0) ((bytesOf s).all pWord) := impl_GoodName_l0 s hs 0 (by omega)
  have hf : ∀ b : Bool, Ev (fun k => impl_GoodName.j0 k s b) (!b && (bytesOf s).all pWord) := by
    intro b
    cases b with
    | true => apply Ev.succ; simp only [impl_GoodName.j0, if_true, Bool.not_true, Bool.false_and]; exact Ev.now _
    | false => apply Ev.succ; simp only [impl_GoodName.j0, Bool.false_eq_true, if_false, Bool.not_false, Bool.true_and]; exact H
  refine Ev.ite (fun h => ?_) fun h => Ev.ite (fun h' => ?_) fun h' => ?_
  · rw [size_bytes_nil] at h; rw [decide_eq_false (by omega)]; exact hf true
  · rw [decide_eq_false (by omega)]; exact hf true
  · rw [size_bytes_nil] at h; rw [decide_eq_true (by omega), Bool.true_and]; exact Ev.yes (by omega) (Ev.call (impl_ydigit_eq _) (hf _))
/-! ### bits of whole numbers -/
theorem wraps_i64 (n : Int) (h₀ : 0 ≤ n) (h₁ : n < 2 ^ 63) : IntKind.i64.wrap n = n := by rw [IntKind.wrap_i64]; omega
theorem i64_mask (j : Nat) (hj : j ≤ 63) (x : Int) (h₀ : 0 ≤ x) (h₁ : x < 9223372036854775808) : Go.bits .and .i64 x (2 ^ j - 1) = x % 2 ^ j :=
  bits_mask .i64 63 (by decide) wraps_i64 j hj x h₀ (by omega)
theorem i64_and1 (x : Int) (h₀ : 0 ≤ x) (h₁ : x < 9223372036854775808) : Go.bits .and .i64 x 1 = x % 2 := i64_mask 1 (by decide) x h₀ h₁
theorem i64_join (j : Nat) (x y : Int) (hx₀ : 0 ≤ x) (hx : x % 2 ^ j = 0) (hx₁ : x < 9223372036854775808) (hy₀ : 0 ≤ y) (hy : y < 2 ^ j) (hy₁ : y < 9223372036854775808) : Go.bits .or .i64 x y = x + y :=
  bits_join .i64 63 (by decide) wraps_i64 j x y hx₀ hx (by omega) hy₀ hy (by omega)
theorem shr_nat (x : Int) (i : Nat) (h : i ≤ 64) : shr .i64 x (i : Int) = x / 2 ^ i := by
  unfold shr
  rw [Int.toNat_natCast, Nat.min_eq_left (by simpa [IntKind.bits] using h)]
theorem u64_nat (i : Nat) (h : i < 9000000000000000000) : IntKind.u64.wrap (i : Int) = (i : Int) := by
  simp [IntKind.wrap, IntKind.bits, IntKind.signed]; omega
/-! ### good atoms -/
def emptyB (s : ByteArray) : Bool := decide (s.size = 0)
def pPrinted (b : Int) : Bool := decide (32 ≤ b ∧ b ≤ 126)
def printed (s : ByteArray) : Bool := (bytesOf s).all pPrinted
def goodAtom (k n : Int) (t y : ByteArray) : Bool :=
  if k = 1 then emptyB t && emptyB y && (n == 0 || n == 1)
  else if k = 2 ∨ k = 5 then emptyB t && emptyB y
  else if k = 3 then n == 0 && emptyB y && decide (t.size ≤ 200) && printed t
  else if k = 4 then n == 0 && goodName y && decide (1 ≤ t.size ∧ t.size ≤ 200) && printed t
  else if k = 6 then emptyB t && emptyB y && decide (0 ≤ n ∧ n % 64 ≤ 32 ∧ n / 64 < 4294967296) && (n / 64) % 2 ^ (32 - n % 64).toNat == 0
  else if k = 7 then emptyB t && emptyB y && decide (-100000000000 ≤ n ∧ n ≤ 100000000000)
  else false
theorem nil_iff (s : ByteArray) : s.toList = ([] : List UInt8) ↔ emptyB s = true := by rw [size_bytes_nil]; simp [emptyB]
theorem nil_beq (s : ByteArray) : (s.toList == ([] : List UInt8)) = emptyB s := by
  rw [Bool.eq_iff_iff, beq_iff_eq, nil_iff]
theorem nil_bne (s : ByteArray) : (s.toList != ([] : List UInt8)) = !emptyB s := by
  rw [bne, nil_beq]
theorem pow_pos' (m : Nat) : (0 : Int) < 2 ^ m := Int.pow_pos (by decide)
theorem pow_mono {a b : Nat} (h : a ≤ b) : (2 : Int) ^ a ≤ 2 ^ b := by
  obtain ⟨d, rfl⟩ := Nat.exists_eq_add_of_le h
  rw [Int.pow_add]
  have h1 := pow_pos' a
  have h2 := pow_pos' d
  have : (2 : Int) ^ a * 1 ≤ 2 ^ a * 2 ^ d := Int.mul_le_mul_of_nonneg_left (by omega) (by omega)
  omega
theorem spec_l1Pow2_l0 (n : Nat) (hn : n ≤ 60) : ∀ (d i : Nat), n = i + d → Ev (fun k => spec_l1Pow2.l0 k (n : Int) (2 ^ i) (i : Int)) (2 ^ n) := by
  intro d
  induction d with
  | zero =>
    intro i h
    refine Ev.succ ?_
    simp only [spec_l1Pow2.l0]
    refine Ev.no (by omega) (Ev.some ?_)
    rw [h]; rfl
  | succ d ih =>
    intro i h
    refine Ev.succ ?_
    simp only [spec_l1Pow2.l0]
    refine Ev.yes (by omega) ?_
    have z := ih (i + 1) (by omega)
    have h1 := pow_pos' (i + 1)
    have h2 := pow_mono (show i + 1 ≤ 61 by omega)
    rw [wrap_nat (by omega), show wrap64 (2 ^ i * 2) = 2 ^ (i + 1) from by rw [← Int.pow_succ]; exact wrap_id (by omega) (by omega)]
    exact z
theorem spec_l1Pow2_ev (m : Int) (h0 : 0 ≤ m) (h1 : m ≤ 60) : Ev (fun k => spec_l1Pow2.f k m) (2 ^ m.toNat) := by
  obtain ⟨n, rfl⟩ := Int.eq_ofNat_of_zero_le h0
  unfold spec_l1Pow2.f
  rw [Int.toNat_natCast]
  exact spec_l1Pow2_l0 n (by omega) n 0 (by omega)
theorem spec_l1Printed_ev (s : ByteArray) (hs : s.size ≤ 1048576) : Ev (fun k => spec_l1Printed.f k s) (printed s) := by
  unfold spec_l1Printed.f printed
  refine loop_all (l := fun k i => spec_l1Printed.l0 k s i) (p := pPrinted) ?_ ?_ ?_ s.size 0 (by omega)
  · intro i h hp r hr
    have hp := of_decide_eq_true hp
    refine Ev.succ ?_
    simp only [spec_l1Printed.l0]
    rw [← wrap_nat (by omega)] at hr
    exact Ev.yes (by omega) (Ev.yes (by omega) (Ev.no (by omega) (Ev.no (by omega) hr)))
  · intro i h hp
    have hp := of_decide_eq_false hp
    refine Ev.succ ?_
    simp only [spec_l1Printed.l0]
    exact Ev.yes (by omega) (Ev.yes (by omega) (Ev.ite (fun _ => Ev.now _) fun h1 => Ev.ite (fun _ => Ev.now _) fun h2 => by omega))
  · refine Ev.succ ?_
    simp only [spec_l1Printed.l0]
    exact Ev.no (by omega) (Ev.now _)
theorem impl_yprinted_ev (s : ByteArray) (lo hi : Nat) (hs : s.size ≤ 1048576) : Ev (fun k => impl_yprinted.f k s (lo : Int) (hi : Int)) (decide (lo ≤ s.size ∧ s.size ≤ hi) && printed s) := by
  have hf : ∀ b : Bool, b = decide (¬ (lo ≤ s.size ∧ s.size ≤ hi)) → Ev (fun k => impl_yprinted.j0 k s b) (decide (lo ≤ s.size ∧ s.size ≤ hi) && printed s) := by
    intro b hb
    refine Ev.succ ?_
    simp only [impl_yprinted.j0]
    refine Ev.ite (fun h => ?_) fun h => ?_
    · rw [hb] at h
      rw [decide_eq_false (of_decide_eq_true h), Bool.false_and]; exact Ev.now _
    · have h' : lo ≤ s.size ∧ s.size ≤ hi := Classical.byContradiction fun z => h (by rw [hb]; exact decide_eq_true z)
      rw [decide_eq_true h', Bool.true_and]
      unfold printed
      refine loop_all (l := fun k i => impl_yprinted.l0 k s (s.size : Int) i) (p := pPrinted) ?_ ?_ ?_ s.size 0 (by omega)
      · intro i h hp r hr
        have hp := of_decide_eq_true hp
        refine Ev.succ ?_
        simp only [impl_yprinted.l0]
        rw [← wrap_nat (by omega)] at hr
        exact Ev.yes (by omega) (Ev.yes (by omega) (Ev.yes (by omega) (Ev.no (by omega) (Ev.no (by omega) hr))))
      · intro i h hp
        have hp := of_decide_eq_false hp
        refine Ev.succ ?_
        simp only [impl_yprinted.l0]
        exact Ev.yes (by omega) (Ev.yes (by omega) (Ev.yes (by omega) (Ev.ite (fun _ => Ev.now _) fun h1 => Ev.ite (fun _ => Ev.now _) fun h2 => by omega)))
      · refine Ev.succ ?_
        simp only [impl_yprinted.l0]
        exact Ev.no (by omega) (Ev.now _)
  unfold impl_yprinted.f
  refine Ev.ite (fun h => hf _ ?_) fun h => hf _ ?_
  · rw [decide_eq_true (by omega)]
  · rw [decide_eq_decide]; omega
theorem tdiv64 {n : Int} (h0 : 0 ≤ n) (h1 : n < 9223372036854775808) : wrap64 (Int.tdiv n 64) = n / 64 := by
  rw [Int.tdiv_eq_ediv_of_nonneg h0]; exact wrap_id (by omega) (by omega)
theorem tmod64 {n : Int} (h0 : 0 ≤ n) : Int.tmod n 64 = n % 64 := Int.tmod_eq_emod_of_nonneg h0
theorem bits_left {n : Int} (h : n % 64 ≤ 32) : wrap64 (32 - n % 64) = 32 - n % 64 := wrap_id (by omega) (by omega)
theorem two_small (m : Int) (h : m ≤ 32) : (0 : Int) < 2 ^ m.toNat ∧ (2 : Int) ^ m.toNat ≤ 4294967296 := by
  refine ⟨pow_pos' _, ?_⟩
  have := pow_mono (show m.toNat ≤ 32 by omega)
  omega
theorem shl_one (m : Int) (h0 : 0 ≤ m) (h : m ≤ 32) : shl .i64 1 m = 2 ^ m.toNat := by
  unfold shl
  have h2 := two_small m h
  rw [Nat.min_eq_left (by simp [IntKind.bits]; omega), Int.one_mul]
  exact wraps_i64 _ (by omega) (by omega)
theorem spec_l1Block_ev (k n : Int) (t y : ByteArray) (h0 : 0 ≤ n) (h1 : n < 9223372036854775808) (h : n % 64 ≤ 32) : Ev (fun q => spec_l1Block.f q k n t y) (n / 64, 2 ^ (32 - n % 64).toNat) := by
  unfold spec_l1Block.f
  rw [tmod64 h0, bits_left h, tdiv64 h0 h1]
  exact (spec_l1Pow2_ev (32 - n % 64) (by omega) (by omega)).bind (Ev.now _)
theorem spec_GoodAtom_j1 (k n : Int) (t y : ByteArray) (b : Bool) (hn : -9223372036854775808 ≤ n) (hn' : n < 9223372036854775808) (ht : t.size ≤ 1048576) (hy : y.size ≤ 1048576) (hk : k ≠ 1) (hb : b = decide (k = 2 ∨ k = 5))
    (e1 : k ≠ 3 → k ≠ 4 → emptyB t = true) (e2 : k ≠ 4 → emptyB y = true) : Ev (fun q => spec_GoodAtom.j1 q k b k n t y) (goodAtom k n t y) := by
  refine Ev.succ ?_
  simp only [spec_GoodAtom.j1]
  unfold goodAtom
  rw [if_neg hk]
  refine Ev.ite (fun h => Ev.some ?_) fun h => ?_
  · rw [hb] at h
    have h := of_decide_eq_true h
    rw [if_pos h, e1 (by omega) (by omega), e2 (by omega)]; rfl
  · have h' : ¬ (k = 2 ∨ k = 5) := fun z => h (by rw [hb]; exact decide_eq_true z)
    rw [if_neg h']
    refine Ev.ite (fun h3 => ?_) fun h3 => ?_
    · rw [if_pos h3, e2 (by omega)]
      refine Ev.ite (fun hz => ?_) fun hz => Ev.some (by simp [hz])
      rw [beq_iff_eq.2 hz]
      refine Ev.ite (fun hs => ?_) fun hs => Ev.some ?_
      · rw [decide_eq_true (by omega)]; exact Ev.tail (spec_l1Printed_ev t ht)
      · rw [decide_eq_false (by omega)]; rfl
    · rw [if_neg h3]
      refine Ev.ite (fun h4 => ?_) fun h4 => ?_
      · rw [if_pos h4]
        refine Ev.ite (fun hz => ?_) fun hz => Ev.some (by simp [hz])
        rw [beq_iff_eq.2 hz]
        refine (spec_GoodName_ev y hy).bind (Ev.ite (fun hg => ?_) fun hg => Ev.some (by simp [hg]))
        rw [hg]
        refine Ev.ite (fun hs => Ev.ite (fun hs' => ?_) fun hs' => Ev.some ?_) fun hs => Ev.some ?_
        · rw [decide_eq_true (by omega)]; exact Ev.tail (spec_l1Printed_ev t ht)
        · rw [decide_eq_false (by omega)]; rfl
        · rw [decide_eq_false (by omega)]; rfl
      · rw [if_neg h4]
        refine Ev.ite (fun h6 => ?_) fun h6 => ?_
        · rw [if_pos h6, e1 h3 h4, e2 h4]
          refine Ev.ite (fun hz => Ev.some ?_) fun hz => (spec_l1Pow2_ev 32 (by omega) (by omega)).bind ?_
          · rw [decide_eq_false (by omega)]; rfl
          · rw [tdiv64 (by omega) (by omega), tmod64 (by omega), show wrap64 (2 ^ (32 : Int).toNat - 1) = 4294967295 from by kernel_rfl]
            refine Ev.ite (fun hf => Ev.some ?_) fun hf => Ev.ite (fun hl => Ev.some ?_) fun hl => ?_
            · rw [decide_eq_false (by omega)]; rfl
            · rw [decide_eq_false (by omega)]; rfl
            · rw [decide_eq_true (by omega)]
              refine (spec_l1Block_ev k n t y (by omega) hn' (by omega)).bind ?_
              have h2 := two_small (32 - n % 64) (by omega)
              refine Ev.no (by omega) (Ev.some ?_)
              rw [Int.tmod_eq_emod_of_nonneg (by omega)]; rfl
        · rw [if_neg h6]
          refine Ev.ite (fun h7 => ?_) fun h7 => Ev.some (by rw [if_neg h7])
          rw [if_pos h7, e1 h3 h4, e2 h4]
          refine Ev.ite (fun hz => Ev.some ?_) fun hz => Ev.some ?_
          · simp; omega
          · rw [decide_eq_false (by omega)]; rfl
theorem spec_GoodAtom_j0 (k n : Int) (t y : ByteArray) (b : Bool) (hn : -9223372036854775808 ≤ n) (hn' : n < 9223372036854775808) (ht : t.size ≤ 1048576) (hy : y.size ≤ 1048576)
    (hb : b = decide ((k ≠ 3 ∧ k ≠ 4 ∧ emptyB t = false) ∨ (k ≠ 4 ∧ emptyB y = false))) : Ev (fun q => spec_GoodAtom.j0 q b k n t y) (goodAtom k n t y) := by
  refine Ev.succ ?_
  simp only [spec_GoodAtom.j0]
  refine Ev.ite (fun h => Ev.some ?_) fun h => ?_
  · rw [hb] at h
    have h := of_decide_eq_true h
    unfold goodAtom
    rcases h with ⟨h3, h4, he⟩ | ⟨h4, he⟩
    · rw [if_neg h3, if_neg h4, he]; simp
    · rw [if_neg h4, he]; simp
  · have h' : ¬ ((k ≠ 3 ∧ k ≠ 4 ∧ emptyB t = false) ∨ (k ≠ 4 ∧ emptyB y = false)) := fun z => h (by rw [hb]; exact decide_eq_true z)
    have e1 : k ≠ 3 → k ≠ 4 → emptyB t = true := fun h3 h4 => by
      cases he : emptyB t with
      | true => rfl
      | false => exact absurd (Or.inl ⟨h3, h4, he⟩) h'
    have e2 : k ≠ 4 → emptyB y = true := fun h4 => by
      cases he : emptyB y with
      | true => rfl
      | false => exact absurd (Or.inr ⟨h4, he⟩) h'
    refine Ev.ite (fun h1 => ?_) fun h1 => Ev.ite (fun h2 => ?_) fun h2 => ?_
    · unfold goodAtom
      rw [if_pos h1, e1 (by omega) (by omega), e2 (by omega)]
      refine Ev.ite (fun hz => Ev.some ?_) fun hz => Ev.some ?_
      · rw [hz]; rfl
      · have : (n == 0) = false := by simp [hz]
        rw [this]; rfl
    · exact spec_GoodAtom_j1 k n t y _ hn hn' ht hy h1 (by rw [Bool.eq_iff_iff]; simp; omega) e1 e2
    · exact spec_GoodAtom_j1 k n t y _ hn hn' ht hy h1 (by rw [Bool.eq_iff_iff]; simp; omega) e1 e2
theorem spec_GoodAtom_ev (k n : Int) (t y : ByteArray) (hn : -9223372036854775808 ≤ n) (hn' : n < 9223372036854775808) (ht : t.size ≤ 1048576) (hy : y.size ≤ 1048576) : Ev (fun q => spec_GoodAtom.f q k n t y) (goodAtom k n t y) := by
  unfold spec_GoodAtom.f
  refine Ev.ite (fun h3 => Ev.ite (fun h4 => by omega) fun h4 => ?_) fun h3 => Ev.ite (fun h4 => ?_) fun h4 => Ev.ite (fun he => ?_) fun he => ?_
  · refine spec_GoodAtom_j0 k n t y _ hn hn' ht hy ?_
    rw [nil_bne, Bool.eq_iff_iff]; simp [h3]
  · refine spec_GoodAtom_j0 k n t y _ hn hn' ht hy ?_
    rw [Bool.eq_iff_iff]; simp [h4]
  · refine spec_GoodAtom_j0 k n t y _ hn hn' ht hy ?_
    rw [nil_iff] at he
    rw [nil_bne, Bool.eq_iff_iff]; simp [h4, he]
  · refine spec_GoodAtom_j0 k n t y _ hn hn' ht hy ?_
    rw [nil_iff] at he
    rw [Bool.eq_iff_iff]; simp [h3, h4, he]
theorem impl_GoodAtom_j1 (k n : Int) (t y : ByteArray) (b : Bool) (hn : -9223372036854775808 ≤ n) (hn' : n < 9223372036854775808) (ht : t.size ≤ 1048576) (hy : y.size ≤ 1048576) (hk : k ≠ 1) (hb : b = decide (k = 2 ∨ k = 5)) :
    Ev (fun q => impl_GoodAtom.j1 q (emptyB t && emptyB y) k b k n t y) (goodAtom k n t y) := by
  refine Ev.succ ?_
  simp only [impl_GoodAtom.j1]
  unfold goodAtom
  rw [if_neg hk]
  refine Ev.ite (fun h => Ev.some ?_) fun h => ?_
  · rw [hb] at h
    rw [if_pos (of_decide_eq_true h)]
  · have h' : ¬ (k = 2 ∨ k = 5) := fun z => h (by rw [hb]; exact decide_eq_true z)
    rw [if_neg h']
    refine Ev.ite (fun h3 => ?_) fun h3 => ?_
    · rw [if_pos h3]
      refine Ev.ite (fun hz => ?_) fun hz => Ev.some (by simp [hz])
      rw [beq_iff_eq.2 hz]
      refine Ev.ite (fun he => ?_) fun he => Ev.some ?_
      · rw [nil_iff] at he
        rw [he]
        have z := impl_yprinted_ev t 0 200 ht
        rw [show decide (0 ≤ t.size ∧ t.size ≤ 200) = decide (t.size ≤ 200) from by simp] at z
        exact Ev.tail z
      · rw [nil_iff] at he
        simp [he]
    · rw [if_neg h3]
      refine Ev.ite (fun h4 => ?_) fun h4 => ?_
      · rw [if_pos h4]
        refine Ev.ite (fun hz => ?_) fun hz => Ev.some (by simp [hz])
        rw [beq_iff_eq.2 hz]
        refine (impl_GoodName_ev y hy).bind (Ev.ite (fun hg => ?_) fun hg => Ev.some (by simp [hg]))
        rw [hg]
        exact Ev.tail (impl_yprinted_ev t 1 200 ht)
      · rw [if_neg h4]
        refine Ev.ite (fun h6 => ?_) fun h6 => ?_
        · rw [if_pos h6]
          refine Ev.ite (fun hb => ?_) fun hb => Ev.some (by simp only [Bool.not_eq_true] at hb; rw [hb]; rfl)
          rw [hb]
          refine Ev.ite (fun hz => Ev.some ?_) fun hz => ?_
          · rw [decide_eq_false (by omega)]; rfl
          · rw [tdiv64 (by omega) (by omega), tmod64 (by omega)]
            refine Ev.ite (fun hf => Ev.ite (fun hl => ?_) fun hl => Ev.some ?_) fun hf => Ev.some ?_
            · rw [decide_eq_true (by omega), bits_left hf, shl_one _ (by omega) (by omega)]
              have h2 := two_small (32 - n % 64) (by omega)
              refine Ev.yes (by omega) (Ev.no (by omega) (Ev.some ?_))
              rw [Int.tmod_eq_emod_of_nonneg (by omega)]; rfl
            · rw [decide_eq_false (by omega)]; rfl
            · rw [decide_eq_false (by omega)]; rfl
        · rw [if_neg h6]
          refine Ev.ite (fun h7 => ?_) fun h7 => Ev.some (by rw [if_neg h7])
          rw [if_pos h7]
          refine Ev.ite (fun hb => ?_) fun hb => Ev.some (by simp only [Bool.not_eq_true] at hb; rw [hb]; rfl)
          rw [hb]
          refine Ev.ite (fun hz => Ev.some ?_) fun hz => Ev.some ?_
          · simp; omega
          · rw [decide_eq_false (by omega)]; rfl
theorem impl_GoodAtom_ev (k n : Int) (t y : ByteArray) (hn : -9223372036854775808 ≤ n) (hn' : n < 9223372036854775808) (ht : t.size ≤ 1048576) (hy : y.size ≤ 1048576) : Ev (fun q => impl_GoodAtom.f q k n t y) (goodAtom k n t y) := by
  have H : Ev (fun q => impl_GoodAtom.j0 q (emptyB t && emptyB y) k n t y) (goodAtom k n t y) := by
    refine Ev.succ ?_
    simp only [impl_GoodAtom.j0]
    refine Ev.ite (fun h1 => ?_) fun h1 => Ev.ite (fun h2 => ?_) fun h2 => ?_
    · unfold goodAtom
      rw [if_pos h1]
      refine Ev.ite (fun hb => ?_) fun hb => Ev.some (by simp only [Bool.not_eq_true] at hb; rw [hb]; rfl)
      rw [hb]
      refine Ev.ite (fun hz => Ev.some ?_) fun hz => Ev.some ?_
      · rw [hz]; rfl
      · have : (n == 0) = false := by simp [hz]
        rw [this]; rfl
    · exact impl_GoodAtom_j1 k n t y _ hn hn' ht hy h1 (by rw [Bool.eq_iff_iff]; simp; omega)
    · exact impl_GoodAtom_j1 k n t y _ hn hn' ht hy h1 (by rw [Bool.eq_iff_iff]; simp; omega)
  unfold impl_GoodAtom.f
  refine Ev.ite (fun he => ?_) fun he => ?_
  · rw [nil_iff] at he
    rw [he, Bool.true_and] at H
    rw [nil_beq]; exact H
  · rw [nil_iff] at he
    simp only [Bool.not_eq_true] at he
    rw [he, Bool.false_and] at H
    exact H
theorem wf_i64 {x : Int} (h : (Lit.int .i64 x).wf = true) : -9223372036854775808 ≤ x ∧ x < 9223372036854775808 := by
  simp [Lit.wf, IntKind.min, IntKind.max, IntKind.signed, IntKind.bits] at h
  omega
/-! ### what is left of the law's measure -/
def szA (m a : Int) : Int := if m - a < 0 then -1 else m - a
theorem szA_neg {m a : Int} : ¬ szA m a < 0 ↔ a ≤ m := by unfold szA; split <;> omega
theorem szA_ok {m a : Int} (h : ¬ szA m a < 0) : szA m a = m - a ∧ a ≤ m := by
  unfold szA at *
  by_cases e : m - a < 0
  · rw [if_pos e] at h; omega
  · rw [if_neg e]; omega
theorem szAtom_eq (k n : Int) (t y : ByteArray) (m : Int) (ht : t.size ≤ 140737488351232) (hy : y.size ≤ 140737488351232) (h0 : 0 ≤ m) (h1 : m ≤ 1048576) :
    laws_szAtom.f k n t y m = some (szA m ((t.size : Int) + y.size)) := by
  unfold laws_szAtom.f szA
  rw [wrap_id (x := m - (t.size : Int)) (by omega) (by omega), wrap_id (x := m - (t.size : Int) - (y.size : Int)) (by omega) (by omega)]
  by_cases h : m - (t.size : Int) < 0
  · rw [if_pos h, if_pos (by omega)]
  · rw [if_neg h]
    by_cases h' : m - (t.size : Int) - (y.size : Int) < 0
    · rw [if_pos h', if_pos (by omega)]
    · rw [if_neg h', if_neg (by omega), show m - ((t.size : Int) + y.size) = m - t.size - y.size by omega]
def addrIn (k n : Int) (t y : ByteArray) (k' n' : Int) (t' y' : ByteArray) : Bool :=
  goodAtom k n t y && goodAtom k' n' t' y' && decide (k = 6 ∧ k' = 6) && decide (n % 64 ≥ n' % 64 ∧ n / 64 / 2 ^ (32 - n' % 64).toNat = n' / 64 / 2 ^ (32 - n' % 64).toNat)
theorem good6 {n : Int} {t y : ByteArray} (h : goodAtom 6 n t y = true) : 0 ≤ n ∧ n % 64 ≤ 32 ∧ n / 64 < 4294967296 ∧ (n / 64) % 2 ^ (32 - n % 64).toNat = 0 := by
  unfold goodAtom at h
  rw [if_neg (by omega), if_neg (by omega), if_neg (by omega), if_neg (by omega), if_pos rfl] at h
  simp only [Bool.and_eq_true, decide_eq_true_eq, beq_iff_eq] at h
  exact ⟨h.1.2.1, h.1.2.2.1, h.1.2.2.2, h.2⟩
/-- Blocks: one begins and ends in the other exactly where it is no greater and lies over the same bits. -/
theorem blocks {x y p q : Int} (hp : 0 < p) (hq : 0 < q) (hx0 : 0 ≤ x) (hy0 : 0 ≤ y) (hx : x % p = 0) (hy : y % q = 0) (hd : q % p = 0 ∨ (p % q = 0 ∧ q < p)) :
    (y ≤ x ∧ x + p ≤ y + q) ↔ (q % p = 0 ∧ x / q = y / q) := by
  obtain ⟨a, rfl⟩ := Int.dvd_of_emod_eq_zero hx
  obtain ⟨b, rfl⟩ := Int.dvd_of_emod_eq_zero hy
  have hb : q * b / q = b := Int.mul_ediv_cancel_left _ (by omega)
  rw [hb]
  constructor
  · rintro ⟨h1, h2⟩
    have hpq : p ≤ q := by omega
    have hd' : q % p = 0 := by
      rcases hd with h | h
      · exact h
      · omega
    refine ⟨hd', ?_⟩
    have e : p * a = (p * a - q * b) + q * b := by omega
    rw [e, Int.add_mul_ediv_left _ _ (by omega), Int.ediv_eq_zero_of_lt (by omega) (by omega)]
    omega
  · rintro ⟨hd', h⟩
    obtain ⟨c, rfl⟩ := Int.dvd_of_emod_eq_zero hd'
    have h1 := Int.mul_ediv_self_le (x := p * a) (k := p * c) (by omega)
    rw [h] at h1
    refine ⟨h1, ?_⟩
    have h2 := Int.lt_mul_ediv_self_add (x := p * a) (k := p * c) hq
    rw [h] at h2
    -- p * a < p * c * b + p * c: so a < c * b + c, and a + 1 ≤ it
    have e1 : p * c * b + p * c = p * (c * b + c) := by rw [Int.mul_add, Int.mul_assoc]
    rw [e1] at h2 ⊢
    have h3 : a < c * b + c := Int.lt_of_mul_lt_mul_left h2 (by omega)
    have h4 : p * (a + 1) ≤ p * (c * b + c) := Int.mul_le_mul_of_nonneg_left (by omega) (by omega)
    rw [Int.mul_add, Int.mul_one] at h4
    exact h4
theorem pow_mod {a b : Nat} (h : a ≤ b) : (2 : Int) ^ b % 2 ^ a = 0 := by
  obtain ⟨d, rfl⟩ := Nat.exists_eq_add_of_le h
  rw [Int.pow_add]; exact Int.mul_emod_right _ _
theorem pow_lt {a b : Nat} (h : a < b) : (2 : Int) ^ a < 2 ^ b := by
  have h1 := pow_mono (show a + 1 ≤ b by omega)
  rw [Int.pow_succ] at h1
  have := pow_pos' a
  omega
theorem addr_blocks {n n' : Int} {t y t' y' : ByteArray} (g : goodAtom 6 n t y = true) (g' : goodAtom 6 n' t' y' = true) :
    (n' / 64 ≤ n / 64 ∧ n / 64 + 2 ^ (32 - n % 64).toNat ≤ n' / 64 + 2 ^ (32 - n' % 64).toNat) ↔ (n % 64 ≥ n' % 64 ∧ n / 64 / 2 ^ (32 - n' % 64).toNat = n' / 64 / 2 ^ (32 - n' % 64).toNat) := by
  obtain ⟨a1, a2, a3, a4⟩ := good6 g
  obtain ⟨b1, b2, b3, b4⟩ := good6 g'
  have hd : (2 : Int) ^ (32 - n' % 64).toNat % 2 ^ (32 - n % 64).toNat = 0 ∨ ((2 : Int) ^ (32 - n % 64).toNat % 2 ^ (32 - n' % 64).toNat = 0 ∧ (2 : Int) ^ (32 - n' % 64).toNat < 2 ^ (32 - n % 64).toNat) := by
    by_cases h : n % 64 ≥ n' % 64
    · exact Or.inl (pow_mod (by omega))
    · exact Or.inr ⟨pow_mod (by omega), pow_lt (by omega)⟩
  rw [blocks (pow_pos' _) (pow_pos' _) (by omega) (by omega) a4 b4 hd]
  constructor
  · rintro ⟨h, he⟩
    refine ⟨?_, he⟩
    apply Classical.byContradiction
    intro hlt
    have h1 := pow_lt (show (32 - n' % 64).toNat < (32 - n % 64).toNat by omega)
    have h2 := pow_pos' (32 - n' % 64).toNat
    rw [Int.emod_eq_of_lt (by omega) h1] at h
    omega
  · rintro ⟨h, he⟩
    exact ⟨pow_mod (by omega), he⟩
theorem spec_AddrIn_ev (k n : Int) (t y : ByteArray) (k' n' : Int) (t' y' : ByteArray) (hn : -9223372036854775808 ≤ n) (hn' : n < 9223372036854775808) (ht : t.size ≤ 1048576) (hy : y.size ≤ 1048576)
    (hm : -9223372036854775808 ≤ n') (hm' : n' < 9223372036854775808) (ht' : t'.size ≤ 1048576) (hy' : y'.size ≤ 1048576) : Ev (fun q => spec_AddrIn.f q k n t y k' n' t' y') (addrIn k n t y k' n' t' y') := by
  have J : ∀ b : Bool, (b = true ↔ ¬ (goodAtom k n t y = true ∧ goodAtom k' n' t' y' = true ∧ k = 6 ∧ k' = 6)) → Ev (fun q => spec_AddrIn.j0 q b k n t y k' n' t' y') (addrIn k n t y k' n' t' y') := by
    intro b hb
    refine Ev.succ ?_
    simp only [spec_AddrIn.j0]
    refine Ev.ite (fun h => Ev.some ?_) fun h => ?_
    · have z := hb.1 h
      unfold addrIn
      rw [eq_comm, ← Bool.not_eq_true]
      intro q
      simp only [Bool.and_eq_true, decide_eq_true_eq] at q
      exact z ⟨q.1.1.1, q.1.1.2, q.1.2.1, q.1.2.2⟩
    · have z : goodAtom k n t y = true ∧ goodAtom k' n' t' y' = true ∧ k = 6 ∧ k' = 6 := Classical.byContradiction fun z => h (hb.2 z)
      obtain ⟨g, g', rfl, rfl⟩ := z
      obtain ⟨a1, a2, a3, a4⟩ := good6 g
      obtain ⟨b1, b2, b3, b4⟩ := good6 g'
      have z := addr_blocks g g'
      have p1 := two_small (32 - n % 64) (by omega)
      have p2 := two_small (32 - n' % 64) (by omega)
      unfold addrIn
      rw [g, g', Bool.true_and]
      simp only [and_self, decide_true, Bool.true_and, Bool.and_true]
      refine (spec_l1Block_ev 6 n t y a1 hn' a2).bind ((spec_l1Block_ev 6 n' t' y' b1 hm' b2).bind ?_)
      simp only
      rw [wrap_id (x := n / 64 + _) (by omega) (by omega), wrap_id (x := n' / 64 + _) (by omega) (by omega)]
      refine Ev.ite (fun hc => Ev.some ?_) fun hc => Ev.some ?_
      · rw [decide_eq_decide, ← z]
        exact ⟨fun h => ⟨hc, h⟩, fun h => h.2⟩
      · rw [eq_comm, decide_eq_false_iff_not, ← z]
        exact fun h => hc h.1
  unfold spec_AddrIn.f
  refine (spec_GoodAtom_ev k n t y hn hn' ht hy).bind (Ev.ite (fun g => ?_) fun g => J true ⟨fun _ h => g h.1, fun _ => rfl⟩)
  refine (spec_GoodAtom_ev k' n' t' y' hm hm' ht' hy').bind (Ev.ite (fun g' => ?_) fun g' => J true ⟨fun _ h => g' h.2.1, fun _ => rfl⟩)
  refine Ev.ite (fun h6 => J _ ?_) fun h6 => J true ⟨fun _ h => h6 h.2.2.1, fun _ => rfl⟩
  rw [bne_iff_ne]
  exact ⟨fun h z => h z.2.2.2, fun h h' => h ⟨g, g', h6, h'⟩⟩
theorem shr_left (x : Int) {n : Int} (h0 : 0 ≤ n) (h : n % 64 ≤ 32) : shr .i64 x (32 - n % 64) = x / 2 ^ (32 - n % 64).toNat := by
  have z := shr_nat x (32 - n % 64).toNat (by omega)
  rw [Int.toNat_of_nonneg (by omega)] at z
  exact z
theorem impl_AddrIn_ev (k n : Int) (t y : ByteArray) (k' n' : Int) (t' y' : ByteArray) (hn : -9223372036854775808 ≤ n) (hn' : n < 9223372036854775808) (ht : t.size ≤ 1048576) (hy : y.size ≤ 1048576)
    (hm : -9223372036854775808 ≤ n') (hm' : n' < 9223372036854775808) (ht' : t'.size ≤ 1048576) (hy' : y'.size ≤ 1048576) : Ev (fun q => impl_AddrIn.f q k n t y k' n' t' y') (addrIn k n t y k' n' t' y') := by
  unfold impl_AddrIn.f
  refine Ev.ite (fun h6 => Ev.ite (fun h6' => ?_) fun h6' => Ev.some (by simp [addrIn, h6'])) fun h6 => Ev.some (by simp [addrIn, h6])
  subst h6 h6'
  refine (impl_GoodAtom_ev _ n t y hn hn' ht hy).bind (Ev.ite (fun g => ?_) fun g => Ev.some (by simp [addrIn, g]))
  refine (impl_GoodAtom_ev _ n' t' y' hm hm' ht' hy').bind (Ev.ite (fun g' => ?_) fun g' => Ev.some (by simp [addrIn, g']))
  obtain ⟨a1, a2, a3, a4⟩ := good6 g
  obtain ⟨b1, b2, b3, b4⟩ := good6 g'
  rw [tmod64 a1, tmod64 b1, bits_left b2, tdiv64 a1 hn', tdiv64 b1 hm', shr_left _ b1 b2, shr_left _ b1 b2]
  unfold addrIn
  rw [g, g', Bool.true_and]
  simp only [and_self, decide_true, Bool.true_and, Bool.and_true]
  refine Ev.ite (fun hc => Ev.yes (by omega) (Ev.some ?_)) fun hc => Ev.some ?_
  · rw [Bool.eq_iff_iff, beq_iff_eq, decide_eq_true_eq]
    exact ⟨fun h => ⟨hc, h⟩, fun h => h.2⟩
  · rw [eq_comm, decide_eq_false_iff_not]
    exact fun h => hc h.1
theorem FnExactAddrIn : laws_FnExactAddrIn.Pure := by
  intro x y hx hy
  obtain ⟨h0, h1, h2, h3⟩ := hx
  obtain ⟨k0, k1, k2, k3⟩ := hy
  have hn := wf_i64 h1
  have hm := wf_i64 k1
  apply Ev.rounds
  unfold laws_FnExactAddrIn.f
  refine Ev.call (szAtom_eq _ _ _ _ _ h2 h3 (by omega) (by omega)) (Ev.ite (fun _ => Ev.now _) fun hz => ?_)
  obtain ⟨e1, hs⟩ := szA_ok hz
  rw [e1] at hz ⊢
  refine Ev.call (szAtom_eq _ _ _ _ _ k2 k3 (by omega) (by omega)) (Ev.ite (fun _ => Ev.now _) fun hz' => ?_)
  obtain ⟨e2, hs'⟩ := szA_ok hz'
  have s1 : x.f2.size ≤ 1048576 ∧ x.f3.size ≤ 1048576 ∧ y.f2.size ≤ 1048576 ∧ y.f3.size ≤ 1048576 := by omega
  obtain ⟨s1, s2, s3, s4⟩ := s1
  simp only [laws_toAtom.f, Option.bind_some]
  exact (spec_AddrIn_ev _ _ _ _ _ _ _ _ hn.1 hn.2 s1 s2 hm.1 hm.2 s3 s4).bind ((impl_AddrIn_ev _ _ _ _ _ _ _ _ hn.1 hn.2 s1 s2 hm.1 hm.2 s3 s4).bind (Ev.no (by simp) (Ev.now _)))

end Go.Proofs.Ytmnlgdmojbhfcaa.Pure
