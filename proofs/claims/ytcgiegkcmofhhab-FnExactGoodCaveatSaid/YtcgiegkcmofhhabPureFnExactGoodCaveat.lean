-- The plain law of this claim: no program in sight but the equations of its functions.
import Derived.Test.YtcgiegkcmofhhabFitFnExactGoodCaveat
import Derived.Test.YtcgiegkcmofhhabDenP
namespace Go.Proofs.Ytcgiegkcmofhhab.PFnExactGoodCaveat
open Go Go.Den
open Go.RowKit (wrap64)
set_option linter.unusedVariables false
abbrev PT : Type := ByteArray × Int × Unit
abbrev CT : Type := ByteArray × Int × ByteArray × (Int × Int × ByteArray × ByteArray × Unit) × Unit

/-! ### good names -/
def pDigit (a : Int) : Bool := decide (48 ≤ a ∧ a ≤ 57)
def pLetter (a : Int) : Bool := decide (97 ≤ a ∧ a ≤ 122 ∨ 65 ≤ a ∧ a ≤ 90)
def pWord (a : Int) : Bool := pLetter a || pDigit a || decide (a = 95)
def goodName (s : ByteArray) : Bool := decide (1 ≤ s.size ∧ s.size ≤ 30) && !pDigit (bt s 0) && (bytesOf s).all pWord
theorem spec_l1Digit_ev (a : Int) : Ev (fun K _ => spec_l1Digit.f K a) (pDigit a) := by
  refine Ev.fn (fun k => spec_l1Digit.f_eq k a) ?_
  unfold pDigit
  exact Ev.ite (fun _ => Ev.some (by (first | rfl | exact decide_eq_decide.2 (by omega) | exact (decide_eq_false (by omega)).symm | exact (decide_eq_true (by omega)).symm))) fun _ => Ev.some (by (first | rfl | exact decide_eq_decide.2 (by omega) | exact (decide_eq_false (by omega)).symm | exact (decide_eq_true (by omega)).symm))
theorem impl_ydigit_ev (a : Int) : Ev (fun K _ => impl_ydigit.f K a) (pDigit a) := by
  refine Ev.fn (fun k => impl_ydigit.f_eq k a) ?_
  unfold pDigit
  exact Ev.ite (fun _ => Ev.some (by (first | rfl | exact decide_eq_decide.2 (by omega) | exact (decide_eq_false (by omega)).symm | exact (decide_eq_true (by omega)).symm))) fun _ => Ev.some (by (first | rfl | exact decide_eq_decide.2 (by omega) | exact (decide_eq_false (by omega)).symm | exact (decide_eq_true (by omega)).symm))
theorem spec_l1Letter_ev (a : Int) : Ev (fun K _ => spec_l1Letter.f K a) (pLetter a) := by
  refine Ev.fn (fun k => spec_l1Letter.f_eq k a) ?_
  unfold pLetter
  exact Ev.ite (fun _ => Ev.ite (fun _ => Ev.some (by (first | rfl | exact decide_eq_decide.2 (by omega) | exact (decide_eq_false (by omega)).symm | exact (decide_eq_true (by omega)).symm))) fun _ => Ev.ite (fun _ => Ev.some (by (first | rfl | exact decide_eq_decide.2 (by omega) | exact (decide_eq_false (by omega)).symm | exact (decide_eq_true (by omega)).symm))) fun _ => Ev.some (by (first | rfl | exact decide_eq_decide.2 (by omega) | exact (decide_eq_false (by omega)).symm | exact (decide_eq_true (by omega)).symm))) fun _ => Ev.ite (fun _ => Ev.some (by (first | rfl | exact decide_eq_decide.2 (by omega) | exact (decide_eq_false (by omega)).symm | exact (decide_eq_true (by omega)).symm))) fun _ => Ev.some (by (first | rfl | exact decide_eq_decide.2 (by omega) | exact (decide_eq_false (by omega)).symm | exact (decide_eq_true (by omega)).symm))
theorem impl_yletter_ev (a : Int) : Ev (fun K _ => impl_yletter.f K a) (pLetter a) := by
  refine Ev.fn (fun k => impl_yletter.f_eq k a) ?_
  unfold pLetter
  exact Ev.ite (fun _ => Ev.ite (fun _ => Ev.some (by (first | rfl | exact decide_eq_decide.2 (by omega) | exact (decide_eq_false (by omega)).symm | exact (decide_eq_true (by omega)).symm))) fun _ => Ev.ite (fun _ => Ev.some (by (first | rfl | exact decide_eq_decide.2 (by omega) | exact (decide_eq_false (by omega)).symm | exact (decide_eq_true (by omega)).symm))) fun _ => Ev.some (by (first | rfl | exact decide_eq_decide.2 (by omega) | exact (decide_eq_false (by omega)).symm | exact (decide_eq_true (by omega)).symm))) fun _ => Ev.ite (fun _ => Ev.some (by (first | rfl | exact decide_eq_decide.2 (by omega) | exact (decide_eq_false (by omega)).symm | exact (decide_eq_true (by omega)).symm))) fun _ => Ev.some (by (first | rfl | exact decide_eq_decide.2 (by omega) | exact (decide_eq_false (by omega)).symm | exact (decide_eq_true (by omega)).symm))
theorem impl_ywordByte_ev (a : Int) : Ev (fun K _ => impl_ywordByte.f K a) (pWord a) := by
  refine Ev.fn (fun k => impl_ywordByte.f_eq k a) ?_
  unfold pWord
  exact (impl_yletter_ev a).bind (Ev.ite (fun h => Ev.some (by rw [h]; rfl)) fun h => (impl_ydigit_ev a).bind (Ev.ite (fun g => Ev.some (by rw [g]; simp)) fun g => Ev.some (by rw [Bool.eq_false_iff.2 h, Bool.eq_false_iff.2 g]; rfl)))
theorem spec_GoodName_ev (s : ByteArray) (hs : s.size ≤ 140737488351232) : Ev (fun K _ => spec_GoodName.f K s) (goodName s) := by
  refine Ev.fn (fun k => spec_GoodName.f_eq k s) ?_
  unfold goodName
  refine Ev.ite (fun h => Ev.some (by rw [decide_eq_false (by omega)]; rfl)) fun h => Ev.ite (fun h' => Ev.some (by rw [decide_eq_false (by omega)]; rfl)) fun h' => Ev.yes (by omega) ((spec_l1Digit_ev _).bind ?_)
  rw [decide_eq_true (by omega), Bool.true_and]
  refine Ev.ite (fun g => Ev.some (by rw [g]; rfl)) fun g => ?_
  rw [Bool.eq_false_iff.2 g, Bool.not_false, Bool.true_and]
  refine Ev.diag (loop_all (L := fun K j i => spec_GoodName.l14 K j s i) (fun i h hp r hr => ?_) (fun i h hp => ?_) ?_)
  · refine Ev.lp (fun K j => spec_GoodName.l14_eq K j s i) (Ev.yes (by omega) (Ev.yes (by omega) ((spec_l1Letter_ev _).bind ?_)))
    rw [wrap_nat (by omega)]
    refine Ev.ite (fun _ => hr) fun h1 => Ev.yes (by omega) ((spec_l1Digit_ev _).bind (Ev.ite (fun _ => hr) fun h2 => Ev.yes (by omega) (Ev.ite (fun _ => hr) fun h3 => ?_)))
    exfalso
    unfold pWord at hp
    simp [h1, h2, h3] at hp
  · refine Ev.lp (fun K j => spec_GoodName.l14_eq K j s i) (Ev.yes (by omega) (Ev.yes (by omega) ((spec_l1Letter_ev _).bind ?_)))
    unfold pWord at hp
    simp only [Bool.or_eq_false_iff, decide_eq_false_iff_not] at hp
    exact Ev.no (by simp [hp.1.1]) (Ev.yes (by omega) ((spec_l1Digit_ev _).bind (Ev.no (by simp [hp.1.2]) (Ev.yes (by omega) (Ev.no hp.2 (Ev.now _))))))
  · exact Ev.lp (fun K j => spec_GoodName.l14_eq K j s _) (Ev.no (by omega) (Ev.now _))
theorem impl_GoodName_ev (s : ByteArray) (hs : s.size ≤ 140737488351232) : Ev (fun K _ => impl_GoodName.f K s) (goodName s) := by
  refine Ev.fn (fun k => impl_GoodName.f_eq k s) ?_
  unfold goodName
  refine Ev.ite (fun h => Ev.some (by rw [size_nil] at h; rw [decide_eq_false (by omega)]; rfl)) fun h => Ev.ite (fun h' => Ev.some (by rw [decide_eq_false (by omega)]; rfl)) fun h' => ?_
  rw [size_nil] at h
  refine Ev.yes (by omega) ((impl_ydigit_ev _).bind ?_)
  rw [decide_eq_true (by omega), Bool.true_and]
  refine Ev.ite (fun g => Ev.some (by rw [g]; rfl)) fun g => ?_
  rw [Bool.eq_false_iff.2 g, Bool.not_false, Bool.true_and]
  refine Ev.diag (loop_all (L := fun K j i => impl_GoodName.l14 K j s (s.size : Int) i) (fun i h hp r hr => ?_) (fun i h hp => ?_) ?_)
  · refine Ev.lp (fun K j => impl_GoodName.l14_eq K j s _ i) (Ev.yes (by omega) (Ev.yes (by omega) ((impl_ywordByte_ev _).bind (Ev.yes hp ?_))))
    rw [wrap_nat (by omega)]; exact hr
  · exact Ev.lp (fun K j => impl_GoodName.l14_eq K j s _ i) (Ev.yes (by omega) (Ev.yes (by omega) ((impl_ywordByte_ev _).bind (Ev.no (by simp [hp]) (Ev.now _)))))
  · exact Ev.lp (fun K j => impl_GoodName.l14_eq K j s _ _) (Ev.no (by omega) (Ev.now _))

/-! ### good atoms -/
def printed (s : ByteArray) : Bool := (bytesOf s).all fun b => decide (32 ≤ b ∧ b ≤ 126)
def goodAtom (a : Int × Int × ByteArray × ByteArray × Unit) : Bool :=
  if a.1 = 1 then decide (a.2.2.1.size = 0 ∧ a.2.2.2.1.size = 0 ∧ (a.2.1 = 0 ∨ a.2.1 = 1))
  else if a.1 = 2 then decide (a.2.2.1.size = 0 ∧ a.2.2.2.1.size = 0)
  else if a.1 = 5 then decide (a.2.2.1.size = 0 ∧ a.2.2.2.1.size = 0)
  else if a.1 = 3 then decide (a.2.1 = 0 ∧ a.2.2.2.1.size = 0 ∧ a.2.2.1.size ≤ 200) && printed a.2.2.1
  else if a.1 = 4 then decide (a.2.1 = 0) && (goodName a.2.2.2.1 && (decide (1 ≤ a.2.2.1.size ∧ a.2.2.1.size ≤ 200) && printed a.2.2.1))
  else if a.1 = 6 then decide (a.2.2.1.size = 0 ∧ a.2.2.2.1.size = 0 ∧ 0 ≤ a.2.1 ∧ a.2.1 % 64 ≤ 32 ∧ a.2.1 / 64 < 4294967296) && decide ((a.2.1 / 64) % 2 ^ (32 - a.2.1 % 64).toNat = 0)
  else if a.1 = 7 then decide (a.2.2.1.size = 0 ∧ a.2.2.2.1.size = 0 ∧ -100000000000 ≤ a.2.1 ∧ a.2.1 ≤ 100000000000)
  else false
theorem spec_l1Printed_ev (s : ByteArray) (hs : s.size ≤ 140737488351232) : Ev (fun K _ => spec_l1Printed.f K s) (printed s) := by
  refine Ev.fn (fun k => spec_l1Printed.f_eq k s) (Ev.diag (loop_all (L := fun K j i => spec_l1Printed.l6 K j s i) (fun i h hp r hr => ?_) (fun i h hp => ?_) ?_))
  · have hp := of_decide_eq_true hp
    refine Ev.lp (fun K j => spec_l1Printed.l6_eq K j s i) (Ev.yes (by omega) (Ev.yes (by omega) (Ev.no (by omega) (Ev.yes (by omega) (Ev.no (by omega) ?_)))))
    rw [wrap_nat (by omega)]; exact hr
  · have hp := of_decide_eq_false hp
    exact Ev.lp (fun K j => spec_l1Printed.l6_eq K j s i) (Ev.yes (by omega) (Ev.yes (by omega) (Ev.ite (fun _ => Ev.now _) fun _ => Ev.yes (by omega) (Ev.yes (by omega) (Ev.now _)))))
  · exact Ev.lp (fun K j => spec_l1Printed.l6_eq K j s _) (Ev.no (by omega) (Ev.now _))
theorem impl_yprinted_ev (s : ByteArray) (lo hi : Int) (hs : s.size ≤ 140737488351232) : Ev (fun K _ => impl_yprinted.f K s lo hi) (decide (lo ≤ s.size ∧ (s.size : Int) ≤ hi) && printed s) := by
  refine Ev.fn (fun k => impl_yprinted.f_eq k s lo hi) (Ev.ite (fun h => Ev.some (by rw [decide_eq_false (by omega)]; rfl)) fun h => Ev.ite (fun h' => Ev.some (by rw [decide_eq_false (by omega)]; rfl)) fun h' => ?_)
  rw [decide_eq_true (by omega), Bool.true_and]
  refine Ev.diag (loop_all (L := fun K j i => impl_yprinted.l14 K j s _ i) (fun i h hp r hr => ?_) (fun i h hp => ?_) ?_)
  · have hp := of_decide_eq_true hp
    refine Ev.lp (fun K j => impl_yprinted.l14_eq K j s _ i) (Ev.yes (by omega) (Ev.yes (by omega) (Ev.no (by omega) (Ev.yes (by omega) (Ev.no (by omega) ?_)))))
    rw [wrap_nat (by omega)]; exact hr
  · have hp := of_decide_eq_false hp
    exact Ev.lp (fun K j => impl_yprinted.l14_eq K j s _ i) (Ev.yes (by omega) (Ev.yes (by omega) (Ev.ite (fun _ => Ev.now _) fun _ => Ev.yes (by omega) (Ev.yes (by omega) (Ev.now _)))))
  · exact Ev.lp (fun K j => impl_yprinted.l14_eq K j s _ _) (Ev.no (by omega) (Ev.now _))
theorem pow_pos' (m : Nat) : (0 : Int) < 2 ^ m := Int.pow_pos (by decide)
theorem pow_mono {a b : Nat} (h : a ≤ b) : (2 : Int) ^ a ≤ 2 ^ b := by
  obtain ⟨d, rfl⟩ := Nat.exists_eq_add_of_le h
  rw [Int.pow_add]
  have h1 := pow_pos' a
  have h2 := pow_pos' d
  have : (2 : Int) ^ a * 1 ≤ 2 ^ a * 2 ^ d := Int.mul_le_mul_of_nonneg_left (by omega) (by omega)
  omega
theorem spec_l1Pow2_l (n : Nat) (hn : n ≤ 60) : ∀ (d i : Nat), n = i + d → Ev (fun K j => spec_l1Pow2.l8 K j (n : Int) (2 ^ i) (i : Int)) (2 ^ n) := by
  intro d
  induction d with
  | zero =>
    intro i h
    refine Ev.lp (fun K j => spec_l1Pow2.l8_eq K j _ _ _) (Ev.no (by omega) (Ev.some ?_))
    rw [h]; rfl
  | succ d ih =>
    intro i h
    refine Ev.lp (fun K j => spec_l1Pow2.l8_eq K j _ _ _) (Ev.yes (by omega) ?_)
    have z := ih (i + 1) (by omega)
    have h1 := pow_pos' (i + 1)
    have h2 := pow_mono (show i + 1 ≤ 61 by omega)
    rw [wrap_nat (by omega), show wrap64 (2 ^ i * 2) = 2 ^ (i + 1) from by rw [← Int.pow_succ]; exact wrap_id (by omega) (by omega)]
    exact z
theorem spec_l1Pow2_ev (m : Int) (h0 : 0 ≤ m) (h1 : m ≤ 60) : Ev (fun K _ => spec_l1Pow2.f K m) (2 ^ m.toNat) := by
  obtain ⟨n, rfl⟩ := Int.eq_ofNat_of_zero_le h0
  rw [Int.toNat_natCast]
  exact Ev.fn (fun k => spec_l1Pow2.f_eq k _) (Ev.diag (spec_l1Pow2_l n (by omega) n 0 (by omega)))
theorem tdiv64 {n : Int} (h0 : 0 ≤ n) (h1 : n < 9223372036854775808) : wrap64 (quoI n 64) = n / 64 := by
  unfold quoI; rw [Int.tdiv_eq_ediv_of_nonneg h0]; exact wrap_id (by omega) (by omega)
theorem tmod64 {n : Int} (h0 : 0 ≤ n) : remI n 64 = n % 64 := Int.tmod_eq_emod_of_nonneg h0
theorem bits_left {n : Int} (h : n % 64 ≤ 32) : wrap64 (32 - n % 64) = 32 - n % 64 := wrap_id (by omega) (by omega)
theorem two_small (m : Int) (h : m ≤ 32) : (0 : Int) < 2 ^ m.toNat ∧ (2 : Int) ^ m.toNat ≤ 4294967296 := by
  refine ⟨pow_pos' _, ?_⟩
  have := pow_mono (show m.toNat ≤ 32 by omega)
  omega
theorem wraps_i64 (x : Int) (h0 : -9223372036854775808 ≤ x) (h1 : x ≤ 9223372036854775807) : IntKind.i64.wrap x = x := by
  have := wrap_id h0 h1
  unfold wrap64 at this
  unfold IntKind.wrap
  simp [IntKind.bits, IntKind.signed] at *
  omega
theorem shl_one (m : Int) (h0 : 0 ≤ m) (h : m ≤ 32) : shlI .i64 1 m = 2 ^ m.toNat := by
  unfold shlI
  have h2 := two_small m h
  rw [Nat.min_eq_left (by simp [IntKind.bits]; omega), Int.one_mul]
  exact wraps_i64 _ (by omega) (by omega)
theorem spec_l1Block_ev (a : Int × Int × ByteArray × ByteArray × Unit) (h0 : 0 ≤ a.2.1) (h1 : a.2.1 < 9223372036854775808) (h : a.2.1 % 64 ≤ 32) : Ev (fun K _ => spec_l1Block.f K a) (a.2.1 / 64, 2 ^ (32 - a.2.1 % 64).toNat, ()) := by
  refine Ev.fn (fun k => spec_l1Block.f_eq k a) ?_
  rw [tmod64 h0, bits_left h, tdiv64 h0 h1]
  exact (spec_l1Pow2_ev (32 - a.2.1 % 64) (by omega) (by omega)).bind (Ev.now _)
theorem goodAtom1 {a : Int × Int × ByteArray × ByteArray × Unit} (h : a.1 = 1) : goodAtom a = decide (a.2.2.1.size = 0 ∧ a.2.2.2.1.size = 0 ∧ (a.2.1 = 0 ∨ a.2.1 = 1)) := by
  unfold goodAtom; rw [if_pos h]
theorem goodAtom2 {a : Int × Int × ByteArray × ByteArray × Unit} (h : a.1 = 2) : goodAtom a = decide (a.2.2.1.size = 0 ∧ a.2.2.2.1.size = 0) := by
  unfold goodAtom; rw [if_neg (by omega), if_pos h]
theorem goodAtom5 {a : Int × Int × ByteArray × ByteArray × Unit} (h : a.1 = 5) : goodAtom a = decide (a.2.2.1.size = 0 ∧ a.2.2.2.1.size = 0) := by
  unfold goodAtom; rw [if_neg (by omega), if_neg (by omega), if_pos h]
theorem goodAtom3 {a : Int × Int × ByteArray × ByteArray × Unit} (h : a.1 = 3) : goodAtom a = (decide (a.2.1 = 0 ∧ a.2.2.2.1.size = 0 ∧ a.2.2.1.size ≤ 200) && printed a.2.2.1) := by
  unfold goodAtom; rw [if_neg (by omega), if_neg (by omega), if_neg (by omega), if_pos h]
theorem goodAtom4 {a : Int × Int × ByteArray × ByteArray × Unit} (h : a.1 = 4) : goodAtom a = (decide (a.2.1 = 0) && (goodName a.2.2.2.1 && (decide (1 ≤ a.2.2.1.size ∧ a.2.2.1.size ≤ 200) && printed a.2.2.1))) := by
  unfold goodAtom; rw [if_neg (by omega), if_neg (by omega), if_neg (by omega), if_neg (by omega), if_pos h]
theorem goodAtom6 {a : Int × Int × ByteArray × ByteArray × Unit} (h : a.1 = 6) : goodAtom a = (decide (a.2.2.1.size = 0 ∧ a.2.2.2.1.size = 0 ∧ 0 ≤ a.2.1 ∧ a.2.1 % 64 ≤ 32 ∧ a.2.1 / 64 < 4294967296) && decide ((a.2.1 / 64) % 2 ^ (32 - a.2.1 % 64).toNat = 0)) := by
  unfold goodAtom; rw [if_neg (by omega), if_neg (by omega), if_neg (by omega), if_neg (by omega), if_neg (by omega), if_pos h]
theorem goodAtom7 {a : Int × Int × ByteArray × ByteArray × Unit} (h : a.1 = 7) : goodAtom a = decide (a.2.2.1.size = 0 ∧ a.2.2.2.1.size = 0 ∧ -100000000000 ≤ a.2.1 ∧ a.2.1 ≤ 100000000000) := by
  unfold goodAtom; rw [if_neg (by omega), if_neg (by omega), if_neg (by omega), if_neg (by omega), if_neg (by omega), if_neg (by omega), if_pos h]
theorem goodAtom0 {a : Int × Int × ByteArray × ByteArray × Unit} (h : a.1 ≠ 1 ∧ a.1 ≠ 2 ∧ a.1 ≠ 3 ∧ a.1 ≠ 4 ∧ a.1 ≠ 5 ∧ a.1 ≠ 6 ∧ a.1 ≠ 7) : goodAtom a = false := by
  unfold goodAtom; rw [if_neg (by omega), if_neg (by omega), if_neg (by omega), if_neg (by omega), if_neg (by omega), if_neg (by omega), if_neg (by omega)]
theorem spec_GoodAtom_ev (a : Int × Int × ByteArray × ByteArray × Unit) (hn : -9223372036854775808 ≤ a.2.1) (hn' : a.2.1 < 9223372036854775808) (ht : a.2.2.1.size ≤ 140737488351232) (hy : a.2.2.2.1.size ≤ 140737488351232) : Ev (fun K _ => spec_GoodAtom.f K a) (goodAtom a) := by
  refine Ev.fn (fun k => spec_GoodAtom.f_eq k a) ?_
  simp only [size_nil]
  by_cases hE : a.2.2.1.size = 0 <;> by_cases hY : a.2.2.2.1.size = 0
  all_goals
    by_cases k1 : a.1 = 1
    · rw [goodAtom1 k1]; (repeat (first | exact Ev.some (by (first | rfl | exact decide_eq_decide.2 (by omega) | exact (decide_eq_false (by omega)).symm | exact (decide_eq_true (by omega)).symm)) | exact Ev.some (by rw [decide_eq_false (by omega)]; rfl) | refine Ev.yes (by omega) ?_ | refine Ev.no (by omega) ?_)) <;> exact Ev.ite (fun _ => Ev.some (by (first | rfl | exact decide_eq_decide.2 (by omega) | exact (decide_eq_false (by omega)).symm | exact (decide_eq_true (by omega)).symm))) fun _ => Ev.some (by (first | rfl | exact decide_eq_decide.2 (by omega) | exact (decide_eq_false (by omega)).symm | exact (decide_eq_true (by omega)).symm))
    by_cases k2 : a.1 = 2
    · rw [goodAtom2 k2]; (repeat (first | exact Ev.some (by (first | rfl | exact decide_eq_decide.2 (by omega) | exact (decide_eq_false (by omega)).symm | exact (decide_eq_true (by omega)).symm)) | exact Ev.some (by rw [decide_eq_false (by omega)]; rfl) | refine Ev.yes (by omega) ?_ | refine Ev.no (by omega) ?_))
    by_cases k5 : a.1 = 5
    · rw [goodAtom5 k5]; (repeat (first | exact Ev.some (by (first | rfl | exact decide_eq_decide.2 (by omega) | exact (decide_eq_false (by omega)).symm | exact (decide_eq_true (by omega)).symm)) | exact Ev.some (by rw [decide_eq_false (by omega)]; rfl) | refine Ev.yes (by omega) ?_ | refine Ev.no (by omega) ?_))
    by_cases k3 : a.1 = 3
    · rw [goodAtom3 k3]
      by_cases z : a.2.1 = 0 ∧ a.2.2.2.1.size = 0 ∧ a.2.2.1.size ≤ 200
      · first
        | (exfalso; omega)
        | (rw [decide_eq_true z, Bool.true_and]; (repeat (first | exact Ev.some (by (first | rfl | exact decide_eq_decide.2 (by omega) | exact (decide_eq_false (by omega)).symm | exact (decide_eq_true (by omega)).symm)) | exact Ev.some (by rw [decide_eq_false (by omega)]; rfl) | refine Ev.yes (by omega) ?_ | refine Ev.no (by omega) ?_)); exact Ev.tail (spec_l1Printed_ev _ ht))
      · rw [decide_eq_false z, Bool.false_and]; (repeat (first | exact Ev.some (by (first | rfl | exact decide_eq_decide.2 (by omega) | exact (decide_eq_false (by omega)).symm | exact (decide_eq_true (by omega)).symm)) | exact Ev.some (by rw [decide_eq_false (by omega)]; rfl) | refine Ev.yes (by omega) ?_ | refine Ev.no (by omega) ?_)) <;> exact Ev.ite (fun _ => Ev.no (by omega) (Ev.now _)) fun _ => Ev.now _
    by_cases k4 : a.1 = 4
    · rw [goodAtom4 k4]
      by_cases z : a.2.1 = 0
      · rw [decide_eq_true z, Bool.true_and]; (repeat (first | exact Ev.some (by (first | rfl | exact decide_eq_decide.2 (by omega) | exact (decide_eq_false (by omega)).symm | exact (decide_eq_true (by omega)).symm)) | exact Ev.some (by rw [decide_eq_false (by omega)]; rfl) | refine Ev.yes (by omega) ?_ | refine Ev.no (by omega) ?_))
        refine (spec_GoodName_ev _ hy).bind (Ev.ite (fun g => ?_) fun g => Ev.some (by rw [Bool.eq_false_iff.2 g]; rfl))
        rw [g, Bool.true_and]
        by_cases s : 1 ≤ a.2.2.1.size ∧ a.2.2.1.size ≤ 200
        · rw [decide_eq_true s, Bool.true_and]; (repeat (first | exact Ev.some (by (first | rfl | exact decide_eq_decide.2 (by omega) | exact (decide_eq_false (by omega)).symm | exact (decide_eq_true (by omega)).symm)) | exact Ev.some (by rw [decide_eq_false (by omega)]; rfl) | refine Ev.yes (by omega) ?_ | refine Ev.no (by omega) ?_)); try exact Ev.tail (spec_l1Printed_ev _ ht)
        · rw [decide_eq_false s, Bool.false_and]; (repeat (first | exact Ev.some (by (first | rfl | exact decide_eq_decide.2 (by omega) | exact (decide_eq_false (by omega)).symm | exact (decide_eq_true (by omega)).symm)) | exact Ev.some (by rw [decide_eq_false (by omega)]; rfl) | refine Ev.yes (by omega) ?_ | refine Ev.no (by omega) ?_)) <;> exact Ev.ite (fun _ => Ev.no (by omega) (Ev.now _)) fun _ => Ev.now _
      · rw [decide_eq_false z, Bool.false_and]; (repeat (first | exact Ev.some (by (first | rfl | exact decide_eq_decide.2 (by omega) | exact (decide_eq_false (by omega)).symm | exact (decide_eq_true (by omega)).symm)) | exact Ev.some (by rw [decide_eq_false (by omega)]; rfl) | refine Ev.yes (by omega) ?_ | refine Ev.no (by omega) ?_))
    by_cases k6 : a.1 = 6
    · rw [goodAtom6 k6]
      (repeat (first | exact Ev.some (by (first | rfl | exact decide_eq_decide.2 (by omega) | exact (decide_eq_false (by omega)).symm | exact (decide_eq_true (by omega)).symm)) | exact Ev.some (by rw [decide_eq_false (by omega)]; rfl) | refine Ev.yes (by omega) ?_ | refine Ev.no (by omega) ?_))
      all_goals
        refine Ev.ite (fun hz => Ev.some (by rw [decide_eq_false (by omega)]; rfl)) fun hz => (spec_l1Pow2_ev 32 (by omega) (by omega)).bind ?_
        rw [tdiv64 (by omega) (by omega), tmod64 (by omega), show wrap64 (2 ^ (32 : Int).toNat - 1) = 4294967295 from by kernel_rfl]
        refine Ev.ite (fun hf => Ev.some (by rw [decide_eq_false (by omega)]; rfl)) fun hf => Ev.ite (fun hl => Ev.some (by rw [decide_eq_false (by omega)]; rfl)) fun hl => ?_
        rw [decide_eq_true (by omega), Bool.true_and]
        refine (spec_l1Block_ev a (by omega) hn' (by omega)).bind ?_
        have h2 := two_small (32 - a.2.1 % 64) (by omega)
        refine Ev.no (show ¬ ((2 : Int) ^ (32 - a.2.1 % 64).toNat = 0) by omega) (Ev.some ?_)
        unfold remI
        rw [Int.tmod_eq_emod_of_nonneg (by omega)]
    by_cases k7 : a.1 = 7
    · rw [goodAtom7 k7]; (repeat (first | exact Ev.some (by (first | rfl | exact decide_eq_decide.2 (by omega) | exact (decide_eq_false (by omega)).symm | exact (decide_eq_true (by omega)).symm)) | exact Ev.some (by rw [decide_eq_false (by omega)]; rfl) | refine Ev.yes (by omega) ?_ | refine Ev.no (by omega) ?_)) <;> exact Ev.ite (fun _ => Ev.some (by (first | rfl | exact decide_eq_decide.2 (by omega) | exact (decide_eq_false (by omega)).symm | exact (decide_eq_true (by omega)).symm))) fun _ => Ev.some (by (first | rfl | exact decide_eq_decide.2 (by omega) | exact (decide_eq_false (by omega)).symm | exact (decide_eq_true (by omega)).symm))
    rw [goodAtom0 ⟨k1, k2, k3, k4, k5, k6, k7⟩]; (repeat (first | exact Ev.some (by (first | rfl | exact decide_eq_decide.2 (by omega) | exact (decide_eq_false (by omega)).symm | exact (decide_eq_true (by omega)).symm)) | exact Ev.some (by rw [decide_eq_false (by omega)]; rfl) | refine Ev.yes (by omega) ?_ | refine Ev.no (by omega) ?_))
theorem impl_GoodAtom_ev (a : Int × Int × ByteArray × ByteArray × Unit) (hn : -9223372036854775808 ≤ a.2.1) (hn' : a.2.1 < 9223372036854775808) (ht : a.2.2.1.size ≤ 140737488351232) (hy : a.2.2.2.1.size ≤ 140737488351232) : Ev (fun K _ => impl_GoodAtom.f K a) (goodAtom a) := by
  refine Ev.fn (fun k => impl_GoodAtom.f_eq k a) ?_
  simp only [size_nil]
  by_cases hE : a.2.2.1.size = 0 <;> by_cases hY : a.2.2.2.1.size = 0
  all_goals
    by_cases k1 : a.1 = 1
    · rw [goodAtom1 k1]; (repeat (first | exact Ev.some (by (first | rfl | exact decide_eq_decide.2 (by omega) | exact (decide_eq_false (by omega)).symm | exact (decide_eq_true (by omega)).symm)) | exact Ev.some (by rw [decide_eq_false (by omega)]; rfl) | refine Ev.yes (by omega) ?_ | refine Ev.no (by omega) ?_)) <;> exact Ev.ite (fun _ => Ev.some (by (first | rfl | exact decide_eq_decide.2 (by omega) | exact (decide_eq_false (by omega)).symm | exact (decide_eq_true (by omega)).symm))) fun _ => Ev.some (by (first | rfl | exact decide_eq_decide.2 (by omega) | exact (decide_eq_false (by omega)).symm | exact (decide_eq_true (by omega)).symm))
    by_cases k2 : a.1 = 2
    · rw [goodAtom2 k2]; (repeat (first | exact Ev.some (by (first | rfl | exact decide_eq_decide.2 (by omega) | exact (decide_eq_false (by omega)).symm | exact (decide_eq_true (by omega)).symm)) | exact Ev.some (by rw [decide_eq_false (by omega)]; rfl) | refine Ev.yes (by omega) ?_ | refine Ev.no (by omega) ?_))
    by_cases k5 : a.1 = 5
    · rw [goodAtom5 k5]; (repeat (first | exact Ev.some (by (first | rfl | exact decide_eq_decide.2 (by omega) | exact (decide_eq_false (by omega)).symm | exact (decide_eq_true (by omega)).symm)) | exact Ev.some (by rw [decide_eq_false (by omega)]; rfl) | refine Ev.yes (by omega) ?_ | refine Ev.no (by omega) ?_))
    by_cases k3 : a.1 = 3
    · rw [goodAtom3 k3]
      by_cases z : a.2.1 = 0 ∧ a.2.2.2.1.size = 0
      · rw [show decide (a.2.1 = 0 ∧ a.2.2.2.1.size = 0 ∧ a.2.2.1.size ≤ 200) = decide ((0 : Int) ≤ a.2.2.1.size ∧ (a.2.2.1.size : Int) ≤ 200) from decide_eq_decide.2 (by omega)]
        (repeat (first | exact Ev.some (by (first | rfl | exact decide_eq_decide.2 (by omega) | exact (decide_eq_false (by omega)).symm | exact (decide_eq_true (by omega)).symm)) | exact Ev.some (by rw [decide_eq_false (by omega)]; rfl) | refine Ev.yes (by omega) ?_ | refine Ev.no (by omega) ?_)) <;> first | exact Ev.tail (impl_yprinted_ev _ _ _ ht) | (exfalso; omega)
      · rw [show decide (a.2.1 = 0 ∧ a.2.2.2.1.size = 0 ∧ a.2.2.1.size ≤ 200) = false from decide_eq_false (by omega), Bool.false_and]; (repeat (first | exact Ev.some (by (first | rfl | exact decide_eq_decide.2 (by omega) | exact (decide_eq_false (by omega)).symm | exact (decide_eq_true (by omega)).symm)) | exact Ev.some (by rw [decide_eq_false (by omega)]; rfl) | refine Ev.yes (by omega) ?_ | refine Ev.no (by omega) ?_)) <;> exact Ev.ite (fun _ => Ev.no (by omega) (Ev.now _)) fun _ => Ev.now _
    by_cases k4 : a.1 = 4
    · rw [goodAtom4 k4]
      by_cases z : a.2.1 = 0
      · rw [decide_eq_true z, Bool.true_and]; (repeat (first | exact Ev.some (by (first | rfl | exact decide_eq_decide.2 (by omega) | exact (decide_eq_false (by omega)).symm | exact (decide_eq_true (by omega)).symm)) | exact Ev.some (by rw [decide_eq_false (by omega)]; rfl) | refine Ev.yes (by omega) ?_ | refine Ev.no (by omega) ?_))
        refine (impl_GoodName_ev _ hy).bind (Ev.ite (fun g => ?_) fun g => Ev.some (by rw [Bool.eq_false_iff.2 g]; rfl))
        rw [g, Bool.true_and, show decide (1 ≤ a.2.2.1.size ∧ a.2.2.1.size ≤ 200) = decide ((1 : Int) ≤ a.2.2.1.size ∧ (a.2.2.1.size : Int) ≤ 200) from decide_eq_decide.2 (by omega)]
        exact Ev.tail (impl_yprinted_ev _ _ _ ht)
      · rw [decide_eq_false z, Bool.false_and]; (repeat (first | exact Ev.some (by (first | rfl | exact decide_eq_decide.2 (by omega) | exact (decide_eq_false (by omega)).symm | exact (decide_eq_true (by omega)).symm)) | exact Ev.some (by rw [decide_eq_false (by omega)]; rfl) | refine Ev.yes (by omega) ?_ | refine Ev.no (by omega) ?_))
    by_cases k6 : a.1 = 6
    · rw [goodAtom6 k6]
      (repeat (first | exact Ev.some (by (first | rfl | exact decide_eq_decide.2 (by omega) | exact (decide_eq_false (by omega)).symm | exact (decide_eq_true (by omega)).symm)) | exact Ev.some (by rw [decide_eq_false (by omega)]; rfl) | refine Ev.yes (by omega) ?_ | refine Ev.no (by omega) ?_))
      all_goals
        refine Ev.ite (fun hz => Ev.some (by rw [decide_eq_false (by omega)]; rfl)) fun hz => ?_
        rw [tdiv64 (by omega) (by omega), tmod64 (by omega)]
        refine Ev.ite (fun hl => Ev.ite (fun hf => ?_) fun hf => Ev.some (by rw [decide_eq_false (by omega)]; rfl)) fun hl => Ev.some (by rw [decide_eq_false (by omega)]; rfl)
        rw [show decide (a.2.2.1.size = 0 ∧ a.2.2.2.1.size = 0 ∧ 0 ≤ a.2.1 ∧ a.2.1 % 64 ≤ 32 ∧ a.2.1 / 64 < 4294967296) = true from decide_eq_true (by omega), Bool.true_and, bits_left hl, shl_one _ (by omega) (by omega)]
        have h2 := two_small (32 - a.2.1 % 64) (by omega)
        refine Ev.no (by omega) (Ev.no (by omega) (Ev.some ?_))
        unfold remI
        rw [Int.tmod_eq_emod_of_nonneg (by omega)]
    by_cases k7 : a.1 = 7
    · rw [goodAtom7 k7]; (repeat (first | exact Ev.some (by (first | rfl | exact decide_eq_decide.2 (by omega) | exact (decide_eq_false (by omega)).symm | exact (decide_eq_true (by omega)).symm)) | exact Ev.some (by rw [decide_eq_false (by omega)]; rfl) | refine Ev.yes (by omega) ?_ | refine Ev.no (by omega) ?_)) <;> exact Ev.ite (fun _ => Ev.some (by (first | rfl | exact decide_eq_decide.2 (by omega) | exact (decide_eq_false (by omega)).symm | exact (decide_eq_true (by omega)).symm))) fun _ => Ev.some (by (first | rfl | exact decide_eq_decide.2 (by omega) | exact (decide_eq_false (by omega)).symm | exact (decide_eq_true (by omega)).symm))
    rw [goodAtom0 ⟨k1, k2, k3, k4, k5, k6, k7⟩]; (repeat (first | exact Ev.some (by (first | rfl | exact decide_eq_decide.2 (by omega) | exact (decide_eq_false (by omega)).symm | exact (decide_eq_true (by omega)).symm)) | exact Ev.some (by rw [decide_eq_false (by omega)]; rfl) | refine Ev.yes (by omega) ?_ | refine Ev.no (by omega) ?_))

theorem spec_l1CmpNum_ev (a b : Int) : Ev (fun K _ => spec_l1CmpNum.f K a b) (if a < b then -1 else if a > b then 1 else 0) :=
  Ev.fn (fun k => spec_l1CmpNum.f_eq k a b) (Ev.ite (fun h => Ev.some (by rw [if_pos h])) fun h => Ev.ite (fun g => Ev.some (by rw [if_neg h, if_pos g])) fun g => Ev.some (by rw [if_neg h, if_neg g]))
/-! ### the order of texts -/
def cmpL : List Int → List Int → Int
  | [], [] => 0
  | [], _ :: _ => -1
  | _ :: _, [] => 1
  | a :: l, b :: m => if a = b then cmpL l m else if a < b then -1 else 1
def cmpT (s t : ByteArray) : Int := cmpL (bytesOf s) (bytesOf t)
theorem cmpL_refl : ∀ l : List Int, cmpL l l = 0
  | [] => rfl
  | a :: l => by unfold cmpL; rw [if_pos rfl]; exact cmpL_refl l
theorem cmpL_zero : ∀ {l m : List Int}, cmpL l m = 0 → l = m
  | [], [], _ => rfl
  | [], _ :: _, h => by simp [cmpL] at h
  | _ :: _, [], h => by simp [cmpL] at h
  | a :: l, b :: m, h => by
    unfold cmpL at h
    by_cases e : a = b
    · rw [if_pos e] at h
      rw [e, cmpL_zero h]
    · rw [if_neg e] at h
      split at h <;> omega
theorem cmpL_anti : ∀ (l m : List Int), cmpL m l = - cmpL l m
  | [], [] => rfl
  | [], _ :: _ => rfl
  | _ :: _, [] => rfl
  | a :: l, b :: m => by
    unfold cmpL
    by_cases e : a = b
    · rw [if_pos e, if_pos e.symm]; exact cmpL_anti l m
    · rw [if_neg e, if_neg (Ne.symm e)]
      by_cases h : a < b
      · rw [if_pos h, if_neg (by omega)]; rfl
      · rw [if_neg h, if_pos (by omega)]
theorem cmpL_range (l m : List Int) : cmpL l m = -1 ∨ cmpL l m = 0 ∨ cmpL l m = 1 := by
  induction l generalizing m with
  | nil => cases m <;> simp [cmpL]
  | cons a l ih =>
    cases m with
    | nil => simp [cmpL]
    | cons b m =>
      unfold cmpL
      by_cases e : a = b
      · rw [if_pos e]; exact ih m
      · rw [if_neg e]; split <;> simp
theorem bytesOf_inj {s t : ByteArray} (h : bytesOf s = bytesOf t) : s = t := by
  have e : s.data.toList = t.data.toList := by
    unfold bytesOf at h
    have inj : ∀ (l m : List UInt8), l.map (fun b => (b.toNat : Int)) = m.map (fun b => (b.toNat : Int)) → l = m := by
      intro l
      induction l with
      | nil => intro m h; cases m with
        | nil => rfl
        | cons b m => simp at h
      | cons a l ih => intro m h; cases m with
        | nil => simp at h
        | cons b m =>
          simp only [List.map_cons, List.cons.injEq] at h
          obtain ⟨h1, h2⟩ := h
          have h3 : a.toNat = b.toNat := by omega
          rw [ih m h2, UInt8.toNat_inj.1 h3]
    exact inj _ _ h
  cases s; cases t
  simp only [ByteArray.mk.injEq]
  exact Array.ext' e
theorem cmpT_zero {s t : ByteArray} : cmpT s t = 0 ↔ s = t :=
  ⟨fun h => bytesOf_inj (cmpL_zero h), fun h => by rw [h]; exact cmpL_refl _⟩
theorem cmpT_range (s t : ByteArray) : cmpT s t = -1 ∨ cmpT s t = 0 ∨ cmpT s t = 1 := cmpL_range _ _
theorem bytesLess_iff (s t : ByteArray) : Op.bytesLess s.toList t.toList = true ↔ cmpT s t = -1 := by
  rw [ByteArray.toList_eq, ByteArray.toList_eq]
  unfold cmpT bytesOf
  generalize s.data.toList = l
  generalize t.data.toList = m
  induction l generalizing m with
  | nil => cases m <;> simp [Op.bytesLess, cmpL]
  | cons a l ih =>
    cases m with
    | nil => simp [Op.bytesLess, cmpL]
    | cons b m =>
      simp only [List.map_cons]
      unfold cmpL Op.bytesLess
      by_cases e : a = b
      · subst e
        rw [if_pos rfl, ← ih m]
        simp
      · have hne : (a.toNat : Int) ≠ b.toNat := fun h => e (UInt8.toNat_inj.1 (by omega))
        rw [if_neg hne]
        by_cases h : a < b
        · have : (a.toNat : Int) < b.toNat := by have := UInt8.lt_iff_toNat_lt.1 h; omega
          rw [if_pos this]; simp [h]
        · have h' : ¬ (a.toNat : Int) < b.toNat := fun q => h (UInt8.lt_iff_toNat_lt.2 (by omega))
          rw [if_neg h']; simp [h, e]
theorem spec_l1CmpText_l (s t : ByteArray) (hs : s.size ≤ 140737488351232) (ht : t.size ≤ 140737488351232) : ∀ (d i : Nat), s.size = i + d → i ≤ t.size → Ev (fun K j => spec_l1CmpText.l6 K j s t (i : Int)) (cmpL ((bytesOf s).drop i) ((bytesOf t).drop i)) := by
  have bad : ∀ (i : Nat), i ≤ s.size → i ≤ t.size → (i = s.size ∨ i = t.size) → Ev (fun K _ => (spec_l1CmpNum.f K (s.size : Int) (t.size : Int)).bind fun t0 => some t0) (cmpL ((bytesOf s).drop i) ((bytesOf t).drop i)) := by
    intro i h1 h2 h3
    refine (spec_l1CmpNum_ev _ _).bind (Ev.some ?_)
    rcases h3 with rfl | rfl
    · rw [List.drop_eq_nil_of_le (by rw [bytesOf_length]; exact Nat.le_refl _)]
      by_cases h : s.size < t.size
      · rw [if_pos (by omega), drop_bytes t _ h]; rfl
      · rw [if_neg (by omega), if_neg (by omega), List.drop_eq_nil_of_le (by rw [bytesOf_length]; omega)]; rfl
    · have dz : (bytesOf t).drop t.size = [] := List.drop_eq_nil_of_le (by rw [bytesOf_length]; exact Nat.le_refl _)
      rw [dz]
      by_cases h : t.size < s.size
      · rw [if_neg (by omega), if_pos (by omega), drop_bytes s _ h]; rfl
      · rw [if_neg (by omega), if_neg (by omega), List.drop_eq_nil_of_le (by rw [bytesOf_length]; omega)]; rfl
  intro d
  induction d with
  | zero =>
    intro i h h2
    exact Ev.lp (fun K j => spec_l1CmpText.l6_eq K j s t i) (Ev.no (by omega) (bad i (by omega) h2 (Or.inl (by omega))))
  | succ d ih =>
    intro i h h2
    refine Ev.lp (fun K j => spec_l1CmpText.l6_eq K j s t i) (Ev.yes (by omega) ?_)
    by_cases h3 : i < t.size
    · refine Ev.yes (by omega) (Ev.yes (by omega) (Ev.yes (by omega) ?_))
      rw [drop_bytes s i (by omega), drop_bytes t i h3]
      unfold cmpL
      have b1 := bt_range s i
      have b2 := bt_range t i
      refine Ev.ite (fun e => ?_) fun e => Ev.yes (by omega) (Ev.yes (by omega) ((spec_l1CmpNum_ev _ _).bind (Ev.some ?_)))
      · rw [if_pos e, wrap_nat (by omega)]
        exact ih (i + 1) (by omega) (by omega)
      · rw [if_neg e, wrap_id (by omega) (by omega), wrap_id (by omega) (by omega)]
        by_cases hlt : bt s i < bt t i
        · rw [if_pos hlt, if_pos hlt]
        · rw [if_neg hlt, if_neg hlt, if_pos (by omega)]
    · exact Ev.no (by omega) (bad i (by omega) h2 (Or.inr (by omega)))
theorem spec_l1CmpText_ev (s t : ByteArray) (hs : s.size ≤ 140737488351232) (ht : t.size ≤ 140737488351232) : Ev (fun K _ => spec_l1CmpText.f K s t) (cmpT s t) :=
  Ev.fn (fun k => spec_l1CmpText.f_eq k s t) (Ev.diag (spec_l1CmpText_l s t hs ht s.size 0 (by omega) (by omega)))
theorem less_cmp (s t : ByteArray) : (Op.bytesLess s.toList t.toList = true) ↔ cmpT s t < 0 := by
  rw [bytesLess_iff]
  rcases cmpT_range s t with h | h | h <;> rw [h] <;> decide

/-! ### the law's measure -/
def SzP (g : Nat → Nat → Option Int) (m : Int) (P : Prop) : Prop := ∃ r, Ev g r ∧ -1 ≤ r ∧ r ≤ m ∧ (0 ≤ r → P)
theorem SzP.now {r m : Int} {P : Prop} (h : -1 ≤ r) (h1 : r ≤ m) (p : P) : SzP (fun _ _ => some r) m P := ⟨r, Ev.now _, h, h1, fun _ => p⟩
theorem SzP.cut {c : Prop} {inst : Decidable c} {B : Nat → Nat → Option Int} {m : Int} {P : Prop} (hm : -1 ≤ m) (h : ¬ c → SzP B m P) : SzP (fun K j => @ite _ c inst (some (-1)) (B K j)) m P := by
  by_cases e : c
  · exact ⟨-1, Ev.yes e (Ev.now _), by omega, hm, fun h => by omega⟩
  · obtain ⟨r, q, q1, q2, q3⟩ := h e
    exact ⟨r, Ev.no e q, q1, q2, q3⟩
theorem SzP.bind {g : Nat → Nat → Option Int} {f : Nat → Nat → Int → Option Int} {m m' : Int} {P P' : Prop} (h : SzP g m' P') (hm : -1 ≤ m) (k : ∀ r, 0 ≤ r → r ≤ m' → P' → SzP (fun K j => f K j r) m P) :
    SzP (fun K j => (g K j).bind fun t => if t < 0 then some (-1) else f K j t) m P := by
  obtain ⟨r, q, q1, q2, q3⟩ := h
  by_cases e : r < 0
  · exact ⟨-1, q.bind (Ev.yes e (Ev.now _)), by omega, hm, fun h => by omega⟩
  · obtain ⟨s, z, z1, z2, z3⟩ := k r (by omega) q2 (q3 (by omega))
    exact ⟨s, q.bind (Ev.no e z), z1, z2, z3⟩
theorem SzP.fn {f B : Nat → Option Int} {m : Int} {P : Prop} (e : ∀ k, f (k + 1) = B k) (h : SzP (fun K _ => B K) m P) : SzP (fun K _ => f K) m P := by
  obtain ⟨r, q, q1, q2, q3⟩ := h; exact ⟨r, Ev.fn e q, q1, q2, q3⟩
theorem SzP.imp {g : Nat → Nat → Option Int} {m m' : Int} {P P' : Prop} (h : SzP g m P) (hm : m ≤ m') (hp : P → P') : SzP g m' P' := by
  obtain ⟨r, q, q1, q2, q3⟩ := h; exact ⟨r, q, q1, by omega, fun z => hp (q3 z)⟩

/-! ### good caveats -/
def okParam (p : PT) : Bool := goodName p.1 && (!(decide (p.1.toList = (⟨#[116, 114, 117, 101]⟩ : ByteArray).toList)) && (!(decide (p.1.toList = (⟨#[102, 97, 108, 115, 101]⟩ : ByteArray).toList)) && (decide (1 ≤ p.2.1) && decide (p.2.1 ≤ 7))))
def cmpP (x y : PT) : Int := cmpT x.1 y.1
def zP : PT := ((⟨#[]⟩ : ByteArray), 0, ())
def risingP (l : List PT) : Bool := rising okParam cmpP zP l
def fitP (l : List PT) : Prop := ∀ x ∈ l, x.1.size ≤ 140737488351232
def fitC (l : List CT) : Prop := ∀ x ∈ l, (-9223372036854775808 ≤ x.2.2.2.1.2.1 ∧ x.2.2.2.1.2.1 < 9223372036854775808) ∧ x.2.2.2.1.2.2.1.size ≤ 140737488351232 ∧ x.2.2.2.1.2.2.2.1.size ≤ 140737488351232
theorem fitP_at {l : List PT} (h : fitP l) (i : Nat) : (l.getD i zP).1.size ≤ 140737488351232 := by
  rw [List.getD_eq_getElem?_getD]
  cases hi : l[i]? with
  | none => exact Nat.zero_le _
  | some x => exact h x (List.mem_of_getElem? hi)
def findP (l : List PT) (n : ByteArray) : PT × Bool × Unit := findV (fun p : PT => decide (p.1.toList = n.toList)) (fun p => (p, true, ())) (zP, false, ()) l
theorem spec_l6Param_ev (l : List PT) (n : ByteArray) (hl : l.length ≤ 140737488351232) : Ev (fun K _ => spec_l6Param.f K l n) (findP l n) := by
  refine Ev.fn (fun k => spec_l6Param.f_eq k l n) (Ev.diag (L := fun K j => spec_l6Param.l6 K j n l (l.length : Int) 0 ⟨#[]⟩ 0) ?_)
  unfold findP
  refine findV_loop (L := fun K j i => spec_l6Param.l6 K j n l (l.length : Int) i ⟨#[]⟩ 0) (q := fun p : PT => decide (p.1.toList = n.toList)) (v := fun p => (p, true, ())) (z := (zP, false, ())) (fun i h => ⟨fun hq => Ev.lp (fun K j => spec_l6Param.l6_eq K j n l _ i _ _) ?_, fun hq r hr => Ev.lp (fun K j => spec_l6Param.l6_eq K j n l _ i _ _) ?_⟩) (Ev.lp (fun K j => spec_l6Param.l6_eq K j n l _ _ _ _) ?_) l.length 0 (by omega)
  · rw [rd_at _ _ _ h]
    exact Ev.yes (by omega) (Ev.yes (by omega) (Ev.yes (of_decide_eq_true hq) (Ev.now _)))
  · rw [rd_at _ _ _ h, wrap_nat (by omega)]
    exact Ev.yes (by omega) (Ev.yes (by omega) (Ev.no (of_decide_eq_false hq) hr))
  · exact Ev.no (by omega) (Ev.now _)
theorem impl_yfind_ev (l : List PT) (n : ByteArray) (hl : l.length ≤ 140737488351232) : Ev (fun K _ => impl_yfind_impl_Param.f K l n) (findP l n) := by
  refine Ev.fn (fun k => impl_yfind_impl_Param.f_eq k l n) (Ev.diag (L := fun K j => impl_yfind_impl_Param.l6 K j n l (l.length : Int) 0 ⟨#[]⟩ 0) ?_)
  have nm : ∀ p : PT, Ev (fun K _ => impl_Caveat_yparam_1.f K p) p.1 := fun p => Ev.fn (fun k => impl_Caveat_yparam_1.f_eq k p) (Ev.now _)
  unfold findP
  refine findV_loop (L := fun K j i => impl_yfind_impl_Param.l6 K j n l (l.length : Int) i ⟨#[]⟩ 0) (q := fun p : PT => decide (p.1.toList = n.toList)) (v := fun p => (p, true, ())) (z := (zP, false, ())) (fun i h => ⟨fun hq => Ev.lp (fun K j => impl_yfind_impl_Param.l6_eq K j n l _ i _ _) ?_, fun hq r hr => Ev.lp (fun K j => impl_yfind_impl_Param.l6_eq K j n l _ i _ _) ?_⟩) (Ev.lp (fun K j => impl_yfind_impl_Param.l6_eq K j n l _ _ _ _) ?_) l.length 0 (by omega)
  · rw [rd_at _ _ _ h]
    exact Ev.yes (by omega) (Ev.yes (by omega) ((nm _).bind (Ev.yes (of_decide_eq_true hq) (Ev.now _))))
  · rw [rd_at _ _ _ h, wrap_nat (by omega)]
    exact Ev.yes (by omega) (Ev.yes (by omega) ((nm _).bind (Ev.no (of_decide_eq_false hq) hr)))
  · exact Ev.no (by omega) (Ev.now _)
theorem impl_param_ev (a : ByteArray) (l : List PT) (tm : List CT) (n : ByteArray) (hl : l.length ≤ 140737488351232) : Ev (fun K _ => impl_Caveat_yparam.f K (a, l, tm, ()) n) (findP l n) :=
  Ev.fn (fun k => impl_Caveat_yparam.f_eq k (a, l, tm, ()) n) ((impl_yfind_ev l n hl).bind (Ev.now _))
/-! a term -/
def numK (k : Int) : Bool := decide (k = 2 ∨ k = 3 ∨ k = 5 ∨ k = 7)
def fitsOp (op k : Int) : Bool := if op = 1 then true else if op = 2 then numK k else if op = 3 then numK k else if op = 4 then decide (k = 6) else false
theorem fits_ev (op x : Int) : Ev (fun _ _ => if op = 1 then some true else if op = 2 then if op = 2 then if x = 2 then some true else if x = 3 then some true else if x = 5 then some true else some (decide (x = 7)) else if op = 4 then some (decide (x = 6)) else some false else if op = 3 then if x = 2 then some true else if x = 3 then some true else if x = 5 then some true else some (decide (x = 7)) else if op = 4 then some (decide (x = 6)) else some false) (fitsOp op x) := by
  have leaf : Ev (fun _ _ => if x = 2 then some true else if x = 3 then some true else if x = 5 then some true else some (decide (x = 7))) (numK x) := by
    unfold numK
    exact Ev.ite (fun _ => Ev.some (by (first | rfl | exact decide_eq_decide.2 (by omega) | exact (decide_eq_false (by omega)).symm | exact (decide_eq_true (by omega)).symm))) fun _ => Ev.ite (fun _ => Ev.some (by (first | rfl | exact decide_eq_decide.2 (by omega) | exact (decide_eq_false (by omega)).symm | exact (decide_eq_true (by omega)).symm))) fun _ => Ev.ite (fun _ => Ev.some (by (first | rfl | exact decide_eq_decide.2 (by omega) | exact (decide_eq_false (by omega)).symm | exact (decide_eq_true (by omega)).symm))) fun _ => Ev.some (by (first | rfl | exact decide_eq_decide.2 (by omega) | exact (decide_eq_false (by omega)).symm | exact (decide_eq_true (by omega)).symm))
  by_cases h1 : op = 1
  · rw [show fitsOp op x = true by unfold fitsOp; rw [if_pos h1]]; exact Ev.yes h1 (Ev.now _)
  refine Ev.no h1 ?_
  by_cases h2 : op = 2
  · rw [show fitsOp op x = numK x by unfold fitsOp; rw [if_neg h1, if_pos h2]]; exact Ev.yes h2 (Ev.yes h2 leaf)
  refine Ev.no h2 ?_
  by_cases h3 : op = 3
  · rw [show fitsOp op x = numK x by unfold fitsOp; rw [if_neg h1, if_neg h2, if_pos h3]]; exact Ev.yes h3 leaf
  refine Ev.no h3 ?_
  by_cases h4 : op = 4
  · rw [show fitsOp op x = decide (x = 6) by unfold fitsOp; rw [if_neg h1, if_neg h2, if_neg h3, if_pos h4]]; exact Ev.yes h4 (Ev.now _)
  · rw [show fitsOp op x = false by unfold fitsOp; rw [if_neg h1, if_neg h2, if_neg h3, if_neg h4]]; exact Ev.no h4 (Ev.now _)
theorem impl_yopFits_ev (op x : Int) : Ev (fun K _ => impl_yopFits.f K op x) (fitsOp op x) := Ev.fn (fun k => impl_yopFits.f_eq k op x) (fits_ev op x)
def zeroA (a : Int × Int × ByteArray × ByteArray × Unit) : Bool := eqD (.pair (.int .i64) (.pair (.int .i64) (.pair .str (.pair .str .unit)))) a ((0, 0, (⟨#[]⟩ : ByteArray), (⟨#[]⟩ : ByteArray), ()) : Int × Int × ByteArray × ByteArray × Unit)
def termB (l : List PT) (t : CT) : Bool :=
  (findP l t.1).2.1 && (if t.2.2.1.toList = (⟨#[]⟩ : ByteArray).toList then goodAtom t.2.2.2.1 && (decide (t.2.2.2.1.1 = (findP l t.1).1.2.1) && fitsOp t.2.1 t.2.2.2.1.1)
    else (findP l t.2.2.1).2.1 && (zeroA t.2.2.2.1 && (decide ((findP l t.2.2.1).1.2.1 = (findP l t.1).1.2.1) && fitsOp t.2.1 (findP l t.2.2.1).1.2.1)))
theorem impl_yzeroAtom_ev (a : Int × Int × ByteArray × ByteArray × Unit) : Ev (fun K _ => impl_yzeroAtom.f K a) (zeroA a) := Ev.fn (fun k => impl_yzeroAtom.f_eq k a) (Ev.now _)
theorem and_ev {b c : Bool} {A : Nat → Nat → Option Bool} (h : b = true → Ev A c) : Ev (fun K j => if b = true then A K j else some false) (b && c) := by
  cases b with
  | true => exact Ev.yes rfl (h rfl)
  | false => exact Ev.no (by simp) (Ev.now _)
theorem andP_ev {p : Prop} {i : Decidable p} {c : Bool} {A : Nat → Nat → Option Bool} (h : p → Ev A c) : Ev (fun K j => @ite _ p i (A K j) (some false)) (decide p && c) := by
  by_cases q : p
  · rw [decide_eq_true q, Bool.true_and]; exact Ev.yes q (h q)
  · rw [decide_eq_false q]; exact Ev.no q (Ev.now _)
theorem spec_term_ev (l : List PT) (t : CT) (hl : l.length ≤ 140737488351232) (ht : (-9223372036854775808 ≤ t.2.2.2.1.2.1 ∧ t.2.2.2.1.2.1 < 9223372036854775808) ∧ t.2.2.2.1.2.2.1.size ≤ 140737488351232 ∧ t.2.2.2.1.2.2.2.1.size ≤ 140737488351232) :
    Ev (fun K _ => spec_l6GoodTerm.f K t l) (termB l t) := by
  refine Ev.fn (fun k => spec_l6GoodTerm.f_eq k t l) ?_
  unfold termB
  refine (spec_l6Param_ev l t.1 hl).bind (and_ev fun h => ?_)
  refine Ev.ite (fun he => ?_) fun he => ?_
  · rw [if_pos he]
    exact (spec_GoodAtom_ev _ ht.1.1 ht.1.2 ht.2.1 ht.2.2).bind (and_ev fun _ => andP_ev fun _ => fits_ev _ _)
  · rw [if_neg he]
    exact (spec_l6Param_ev l t.2.2.1 hl).bind (and_ev fun _ => and_ev (b := zeroA t.2.2.2.1) fun _ => andP_ev fun _ => fits_ev _ _)
theorem spec_terms (a : ByteArray) (l : List PT) (tm : List CT) (hl : l.length ≤ 140737488351232) (hm : tm.length ≤ 140737488351232) (fm : fitC tm) :
    Ev (fun K j => spec_GoodCaveat.l37 K j tm (tm.length : Int) 0 a l tm) (tm.all (termB l)) := by
  rw [← Bool.and_true (tm.all _)]
  refine all_loop (L := fun K j i => spec_GoodCaveat.l37 K j tm (tm.length : Int) i a l tm) (l := tm) (p := termB l) (fun i hi => ?_) (Ev.lp (fun K j => spec_GoodCaveat.l37_eq K j tm _ _ a l tm) (Ev.no (by omega) (Ev.now _))) tm.length 0 (by omega)
  have f := fm _ (List.getElem_mem hi)
  refine two_ways fun r H => Ev.lp (fun K j => spec_GoodCaveat.l37_eq K j tm _ i a l tm) ?_
  rw [rd_at _ _ _ hi, wrap_nat (by omega)]
  exact Ev.yes (by omega) (Ev.yes (by omega) ((spec_term_ev l _ hl f).bind (and_ev H)))
theorem and_assoc' (a b c : Bool) : ((a && b) && c) = (a && (b && c)) := Bool.and_assoc a b c
theorem impl_terms (a : ByteArray) (l : List PT) (tm : List CT) (hl : l.length ≤ 140737488351232) (hm : tm.length ≤ 140737488351232) (fm : fitC tm) :
    Ev (fun K j => impl_GoodCaveat.l37 K j tm (tm.length : Int) 0 a l tm) (tm.all (termB l)) := by
  rw [← Bool.and_true (tm.all _)]
  refine all_loop (L := fun K j i => impl_GoodCaveat.l37 K j tm (tm.length : Int) i a l tm) (l := tm) (p := termB l) (fun i hi => ?_) (Ev.lp (fun K j => impl_GoodCaveat.l37_eq K j tm _ _ a l tm) (Ev.no (by omega) (Ev.now _))) tm.length 0 (by omega)
  have f := fm _ (List.getElem_mem hi)
  refine two_ways fun r H => Ev.lp (fun K j => impl_GoodCaveat.l37_eq K j tm _ i a l tm) ?_
  rw [rd_at _ _ _ hi, wrap_nat (by omega)]
  unfold termB at H ⊢
  refine Ev.yes (by omega) (Ev.yes (by omega) ((impl_param_ev a l tm _ hl).bind ?_))
  rw [Bool.and_assoc]
  refine and_ev fun h => ?_
  rw [h, Bool.true_and] at H
  refine Ev.ite (fun he => ?_) fun he => ?_
  · rw [if_pos he] at H ⊢
    rw [Bool.and_assoc, Bool.and_assoc]
    refine (impl_GoodAtom_ev _ f.1.1 f.1.2 f.2.1 f.2.2).bind (and_ev fun h1 => andP_ev fun h2 => (impl_yopFits_ev _ _).bind (and_ev fun h3 => H (by rw [h1, h3, decide_eq_true h2]; rfl)))
  · rw [if_neg he] at H ⊢
    rw [Bool.and_assoc, Bool.and_assoc, Bool.and_assoc]
    refine (impl_param_ev a l tm _ hl).bind (and_ev fun h1 => (impl_yzeroAtom_ev _).bind (and_ev fun h2 => andP_ev fun h3 => (impl_yopFits_ev _ _).bind (and_ev fun h4 => H (by rw [h1, h2, h4, decide_eq_true h3]; rfl))))
theorem okAt_not {l : List PT} {i : Nat} (h : okParam (l.getD i zP) = false) : okAt okParam cmpP zP l i = false := by
  unfold okAt; rw [h]; rfl
theorem okParam_name {p : PT} (h : goodName p.1 = false) : okParam p = false := by unfold okParam; rw [h]; rfl
theorem okParam_true {p : PT} (h : p.1.toList = (⟨#[116, 114, 117, 101]⟩ : ByteArray).toList) : okParam p = false := by unfold okParam; rw [decide_eq_true h]; simp
theorem okParam_false {p : PT} (h : p.1.toList = (⟨#[102, 97, 108, 115, 101]⟩ : ByteArray).toList) : okParam p = false := by unfold okParam; rw [decide_eq_true h]; simp
theorem okParam_low {p : PT} (h : p.2.1 < 1) : okParam p = false := by unfold okParam; rw [show decide (1 ≤ p.2.1) = false from decide_eq_false (by omega)]; simp
theorem okParam_high {p : PT} (h : p.2.1 > 7) : okParam p = false := by unfold okParam; rw [show decide (p.2.1 ≤ 7) = false from decide_eq_false (by omega)]; simp
theorem okParam_all {p : PT} (h : goodName p.1 = true) (h1 : ¬ p.1.toList = (⟨#[116, 114, 117, 101]⟩ : ByteArray).toList) (h2 : ¬ p.1.toList = (⟨#[102, 97, 108, 115, 101]⟩ : ByteArray).toList) (h3 : ¬ p.2.1 < 1) (h4 : ¬ p.2.1 > 7) : okParam p = true := by
  unfold okParam; rw [h, decide_eq_false h1, decide_eq_false h2, decide_eq_true (show 1 ≤ p.2.1 by omega), decide_eq_true (show p.2.1 ≤ 7 by omega)]; rfl
theorem okAt_first {l : List PT} {i : Nat} (h : okParam (l.getD i zP) = true) (h0 : ¬ (i : Int) > 0) : okAt okParam cmpP zP l i = true := by
  unfold okAt; rw [h, decide_eq_true (show i = 0 by omega)]; rfl
theorem okAt_next {l : List PT} {i : Nat} (h : okParam (l.getD i zP) = true) (h0 : cmpT (l.getD (i - 1) zP).1 (l.getD i zP).1 < 0) : okAt okParam cmpP zP l i = true := by
  unfold okAt cmpP; rw [h, decide_eq_true h0, Bool.or_true]; rfl
theorem okAt_fall {l : List PT} {i : Nat} (hi : (i : Int) > 0) (h0 : ¬ cmpT (l.getD (i - 1) zP).1 (l.getD i zP).1 < 0) : okAt okParam cmpP zP l i = false := by
  unfold okAt cmpP; rw [decide_eq_false h0, decide_eq_false (show ¬ i = 0 by omega)]; simp
theorem spec_params (a : ByteArray) (l : List PT) (tm : List CT) (hl : l.length ≤ 140737488351232) (fl : fitP l) {r : Bool} (hr : Ev (fun K j => spec_GoodCaveat.l37 K j tm (tm.length : Int) 0 a l tm) r) :
    Ev (fun K j => spec_GoodCaveat.l14 K j l (l.length : Int) 0 a l tm) (risingP l && r) := by
  unfold risingP
  refine rise_loop (L := fun K j i => spec_GoodCaveat.l14 K j l (l.length : Int) i a l tm) (fun i hi => ?_) (Ev.lp (fun K j => spec_GoodCaveat.l14_eq K j l _ _ a l tm) (Ev.no (by omega) hr))
  refine two_ways fun r H => Ev.lp (fun K j => spec_GoodCaveat.l14_eq K j l _ i a l tm) ?_
  rw [show (rd Z99 l (i : Int)) = l.getD i zP from rd_nat zP l i, wrap_nat (by omega)]
  refine Ev.yes (by omega) (Ev.yes (by omega) ((spec_GoodName_ev _ (fitP_at fl i)).bind (Ev.ite (fun g => ?_) fun g => Ev.some (by rw [okAt_not (okParam_name (Bool.eq_false_iff.2 g))]; rfl))))
  refine Ev.ite (fun h1 => Ev.some (by rw [okAt_not (okParam_true h1)]; rfl)) fun h1 => Ev.ite (fun h2 => Ev.some (by rw [okAt_not (okParam_false h2)]; rfl)) fun h2 => Ev.ite (fun h3 => Ev.some (by rw [okAt_not (okParam_low h3)]; rfl)) fun h3 => Ev.ite (fun h4 => Ev.some (by rw [okAt_not (okParam_high h4)]; rfl)) fun h4 => ?_
  have K := okParam_all g h1 h2 h3 h4
  refine Ev.ite (fun h5 => ?_) fun h5 => ?_
  · rw [cast_pred (by omega) (by omega), show (rd Z99 l ((i - 1 : Nat) : Int)) = l.getD (i - 1) zP from rd_nat zP l (i - 1)]
    refine Ev.yes (by omega) ((spec_l1CmpText_ev _ _ (fitP_at fl _) (fitP_at fl _)).bind (Ev.ite (fun h6 => Ev.some (by rw [okAt_fall h5 (by omega)]; rfl)) fun h6 => ?_))
    have E := okAt_next K (by omega)
    rw [E, Bool.true_and]; exact H E
  · have E := okAt_first K h5
    rw [E, Bool.true_and]; exact H E
def caveatB (a : ByteArray) (l : List PT) (tm : List CT) : Bool := goodName a && (decide (1 ≤ l.length ∧ l.length ≤ 6 ∧ 1 ≤ tm.length ∧ tm.length ≤ 6) && (risingP l && tm.all (termB l)))
theorem spec_GoodCaveat_ev (a : ByteArray) (l : List PT) (tm : List CT) (ha : a.size ≤ 140737488351232) (hl : l.length ≤ 140737488351232) (fl : fitP l) (hm : tm.length ≤ 140737488351232) (fm : fitC tm) :
    Ev (fun K _ => spec_GoodCaveat.f K (a, l, tm, ())) (caveatB a l tm) := by
  refine Ev.fn (fun k => spec_GoodCaveat.f_eq k (a, l, tm, ())) ?_
  unfold caveatB
  refine (spec_GoodName_ev a ha).bind (and_ev fun g => ?_)
  have no : ∀ {q : Prop} {i : Decidable q}, ¬ q → (decide q && (risingP l && tm.all (termB l))) = false := fun h => by rw [decide_eq_false h]; rfl
  refine Ev.ite (fun h => Ev.some (no (by have h : (l.length : Int) < 1 := h; omega)).symm) fun h1 => Ev.ite (fun h => Ev.some (no (by have h : (l.length : Int) > 6 := h; omega)).symm) fun h2 => Ev.ite (fun h => Ev.some (no (by have h : (tm.length : Int) < 1 := h; omega)).symm) fun h3 => Ev.ite (fun h => Ev.some (no (by have h : (tm.length : Int) > 6 := h; omega)).symm) fun h4 => ?_
  have h1 : ¬ (l.length : Int) < 1 := h1
  have h2 : ¬ (l.length : Int) > 6 := h2
  have h3 : ¬ (tm.length : Int) < 1 := h3
  have h4 : ¬ (tm.length : Int) > 6 := h4
  rw [decide_eq_true (show 1 ≤ l.length ∧ l.length ≤ 6 ∧ 1 ≤ tm.length ∧ tm.length ≤ 6 by omega), Bool.true_and]
  exact Ev.diag (L := fun K j => spec_GoodCaveat.l14 K j l (l.length : Int) 0 a l tm) (spec_params a l tm hl fl (spec_terms a l tm hl hm fm))
theorem impl_params (a : ByteArray) (l : List PT) (tm : List CT) (hl : l.length ≤ 140737488351232) (fl : fitP l) {r : Bool} (hr : Ev (fun K j => impl_GoodCaveat.l37 K j tm (tm.length : Int) 0 a l tm) r) :
    Ev (fun K j => impl_GoodCaveat.l14 K j l (l.length : Int) 0 a l tm) (risingP l && r) := by
  unfold risingP
  refine rise_loop (L := fun K j i => impl_GoodCaveat.l14 K j l (l.length : Int) i a l tm) (fun i hi => ?_) (Ev.lp (fun K j => impl_GoodCaveat.l14_eq K j l _ _ a l tm) (Ev.no (by omega) hr))
  refine two_ways fun r H => Ev.lp (fun K j => impl_GoodCaveat.l14_eq K j l _ i a l tm) ?_
  rw [show (rd Z99 l (i : Int)) = l.getD i zP from rd_nat zP l i, wrap_nat (by omega)]
  refine Ev.yes (by omega) (Ev.yes (by omega) ((impl_GoodName_ev _ (fitP_at fl i)).bind (Ev.ite (fun g => ?_) fun g => Ev.some (by rw [okAt_not (okParam_name (Bool.eq_false_iff.2 g))]; rfl))))
  refine Ev.ite (fun h1 => Ev.some (by rw [okAt_not (okParam_true h1)]; rfl)) fun h1 => Ev.ite (fun h2 => Ev.some (by rw [okAt_not (okParam_false h2)]; rfl)) fun h2 => ?_
  refine Ev.ite (fun h5 => ?_) fun h5 => ?_
  · rw [cast_pred (by omega) (by omega), show (rd Z99 l ((i - 1 : Nat) : Int)) = l.getD (i - 1) zP from rd_nat zP l (i - 1)]
    refine Ev.yes (by omega) (Ev.ite (fun h6 => ?_) fun h6 => Ev.some (by rw [okAt_fall h5 (fun q => h6 ((less_cmp _ _).2 q))]; rfl))
    refine Ev.ite (fun h3 => Ev.some (by rw [okAt_not (okParam_low h3)]; rfl)) fun h3 => Ev.ite (fun h4 => Ev.some (by rw [okAt_not (okParam_high h4)]; rfl)) fun h4 => ?_
    have E := okAt_next (okParam_all g h1 h2 h3 h4) ((less_cmp _ _).1 h6)
    rw [E, Bool.true_and]; exact H E
  · refine Ev.ite (fun h3 => Ev.some (by rw [okAt_not (okParam_low h3)]; rfl)) fun h3 => Ev.ite (fun h4 => Ev.some (by rw [okAt_not (okParam_high h4)]; rfl)) fun h4 => ?_
    have E := okAt_first (okParam_all g h1 h2 h3 h4) h5
    rw [E, Bool.true_and]; exact H E
theorem impl_GoodCaveat_ev (a : ByteArray) (l : List PT) (tm : List CT) (ha : a.size ≤ 140737488351232) (hl : l.length ≤ 140737488351232) (fl : fitP l) (hm : tm.length ≤ 140737488351232) (fm : fitC tm) :
    Ev (fun K _ => impl_GoodCaveat.f K (a, l, tm, ())) (caveatB a l tm) := by
  refine Ev.fn (fun k => impl_GoodCaveat.f_eq k (a, l, tm, ())) ?_
  unfold caveatB
  refine (impl_GoodName_ev a ha).bind (and_ev fun g => ?_)
  have no : ∀ {q : Prop} {i : Decidable q}, ¬ q → (decide q && (risingP l && tm.all (termB l))) = false := fun h => by rw [decide_eq_false h]; rfl
  refine Ev.ite (fun h => Ev.some (no (by have h : (l.length : Int) < 1 := h; omega)).symm) fun h1 => Ev.ite (fun h => Ev.some (no (by have h : (l.length : Int) > 6 := h; omega)).symm) fun h2 => Ev.ite (fun h => Ev.some (no (by have h : (tm.length : Int) < 1 := h; omega)).symm) fun h3 => Ev.ite (fun h => Ev.some (no (by have h : (tm.length : Int) > 6 := h; omega)).symm) fun h4 => ?_
  have h1 : ¬ (l.length : Int) < 1 := h1
  have h2 : ¬ (l.length : Int) > 6 := h2
  have h3 : ¬ (tm.length : Int) < 1 := h3
  have h4 : ¬ (tm.length : Int) > 6 := h4
  rw [decide_eq_true (show 1 ≤ l.length ∧ l.length ≤ 6 ∧ 1 ≤ tm.length ∧ tm.length ≤ 6 by omega), Bool.true_and]
  exact Ev.diag (L := fun K j => impl_GoodCaveat.l14 K j l (l.length : Int) 0 a l tm) (impl_params a l tm hl fl (impl_terms a l tm hl hm fm))

abbrev AT : Type := Int × Int × ByteArray × ByteArray × Unit
theorem toAtom_ev (a : AT) : Ev (fun K _ => laws_toAtom.f K a) a := Ev.fn (fun k => laws_toAtom.f_eq k a) (Ev.now _)
theorem toParam_ev (a : PT) : Ev (fun K _ => laws_toParam.f K a) a := Ev.fn (fun k => laws_toParam.f_eq k a) (Ev.now _)
theorem toCavTerm_ev (a : CT) : Ev (fun K _ => laws_toCavTerm.f K a) a := Ev.fn (fun k => laws_toCavTerm.f_eq k a) ((toAtom_ev _).bind (Ev.now _))
theorem toParamS_ev (l : List PT) (h : l.length ≤ 1048576) : Ev (fun K _ => laws_toParamS.f K l) l := by
  refine Ev.fn (fun k => laws_toParamS.f_eq k l) (Ev.yes (by omega) (Ev.yes rfl (Ev.diag (copy_loop (L := fun K j i y => laws_toParamS.l8 K j l i y) (fun i h y hy r hr => ?_) (fun y => ?_) l.length 0 _ (by omega) (reps_length _ _) rfl))))
  · refine Ev.lp (fun K j => laws_toParamS.l8_eq K j l i y) (Ev.yes (by omega) (Ev.yes (by omega) ((toParam_ev _).bind (Ev.yes (by omega) ?_))))
    rw [rd_at _ _ _ h, wrap_nat (by omega)]; exact hr
  · exact Ev.lp (fun K j => laws_toParamS.l8_eq K j l _ y) (Ev.no (by omega) (Ev.now _))
theorem toCavTermS_ev (l : List CT) (h : l.length ≤ 1048576) : Ev (fun K _ => laws_toCavTermS.f K l) l := by
  refine Ev.fn (fun k => laws_toCavTermS.f_eq k l) (Ev.yes (by omega) (Ev.yes rfl (Ev.diag (copy_loop (L := fun K j i y => laws_toCavTermS.l8 K j l i y) (fun i h y hy r hr => ?_) (fun y => ?_) l.length 0 _ (by omega) (reps_length _ _) rfl))))
  · refine Ev.lp (fun K j => laws_toCavTermS.l8_eq K j l i y) (Ev.yes (by omega) (Ev.yes (by omega) ((toCavTerm_ev _).bind (Ev.yes (by omega) ?_))))
    rw [rd_at _ _ _ h, wrap_nat (by omega)]; exact hr
  · exact Ev.lp (fun K j => laws_toCavTermS.l8_eq K j l _ y) (Ev.no (by omega) (Ev.now _))
theorem eqAtom_ev (a : AT) : Ev (fun K _ => laws_eqAtom.f K a a) true := Ev.fn (fun k => laws_eqAtom.f_eq k a a) (Ev.yes rfl (Ev.yes rfl (Ev.yes rfl (Ev.yes rfl (Ev.now _)))))
theorem eqParam_ev (a : PT) : Ev (fun K _ => laws_eqParam.f K a a) true := Ev.fn (fun k => laws_eqParam.f_eq k a a) (Ev.yes rfl (Ev.yes rfl (Ev.now _)))
theorem eqCavTerm_ev (a : CT) : Ev (fun K _ => laws_eqCavTerm.f K a a) true := Ev.fn (fun k => laws_eqCavTerm.f_eq k a a) (Ev.yes rfl (Ev.yes rfl (Ev.yes rfl ((eqAtom_ev _).bind (Ev.yes rfl (Ev.now _))))))
theorem eqParamS_ev (l : List PT) (h : l.length ≤ 1048576) : Ev (fun K _ => laws_eqParamS.f K l l) true := by
  refine Ev.fn (fun k => laws_eqParamS.f_eq k l l) (Ev.yes rfl (Ev.diag (true_loop (L := fun K j i => laws_eqParamS.l14 K j l l i) (n := l.length) (fun i h r hr => ?_) ?_ l.length 0 (by omega))))
  · refine Ev.lp (fun K j => laws_eqParamS.l14_eq K j l l i) (Ev.yes (by omega) (Ev.yes (by omega) (Ev.yes (by omega) ((eqParam_ev _).bind (Ev.yes rfl ?_)))))
    rw [wrap_nat (by omega)]; exact hr
  · exact Ev.lp (fun K j => laws_eqParamS.l14_eq K j l l _) (Ev.no (by omega) (Ev.now _))
theorem eqCavTermS_ev (l : List CT) (h : l.length ≤ 1048576) : Ev (fun K _ => laws_eqCavTermS.f K l l) true := by
  refine Ev.fn (fun k => laws_eqCavTermS.f_eq k l l) (Ev.yes rfl (Ev.diag (true_loop (L := fun K j i => laws_eqCavTermS.l14 K j l l i) (n := l.length) (fun i h r hr => ?_) ?_ l.length 0 (by omega))))
  · refine Ev.lp (fun K j => laws_eqCavTermS.l14_eq K j l l i) (Ev.yes (by omega) (Ev.yes (by omega) (Ev.yes (by omega) ((eqCavTerm_ev _).bind (Ev.yes rfl ?_)))))
    rw [wrap_nat (by omega)]; exact hr
  · exact Ev.lp (fun K j => laws_eqCavTermS.l14_eq K j l l _) (Ev.no (by omega) (Ev.now _))
theorem szAtom_ok (a : AT) (m : Int) (h0 : 0 ≤ m) (h1 : m ≤ 1048576) (ht : a.2.2.1.size ≤ 140737488351232) (hy : a.2.2.2.1.size ≤ 140737488351232) : SzP (fun K _ => laws_szAtom.f K a m) m True := by
  refine SzP.fn (fun k => laws_szAtom.f_eq k a m) ?_
  rw [wrap_id (x := m - (a.2.2.1.size : Int)) (by omega) (by omega), wrap_id (x := m - (a.2.2.1.size : Int) - (a.2.2.2.1.size : Int)) (by omega) (by omega)]
  exact SzP.cut (by omega) fun _ => SzP.cut (by omega) fun _ => SzP.now (by omega) (by omega) trivial
theorem szParam_ok (a : PT) (m : Int) (h0 : 0 ≤ m) (h1 : m ≤ 1048576) (ht : a.1.size ≤ 140737488351232) : SzP (fun K _ => laws_szParam.f K a m) m True := by
  refine SzP.fn (fun k => laws_szParam.f_eq k a m) ?_
  rw [wrap_id (x := m - (a.1.size : Int)) (by omega) (by omega)]
  exact SzP.cut (by omega) fun _ => SzP.now (by omega) (by omega) trivial
theorem szCavTerm_ok (a : CT) (m : Int) (h0 : 0 ≤ m) (h1 : m ≤ 1048576) (ht : a.1.size ≤ 140737488351232) (hy : a.2.2.1.size ≤ 140737488351232) (hz : a.2.2.2.1.2.2.1.size ≤ 140737488351232) (hw : a.2.2.2.1.2.2.2.1.size ≤ 140737488351232) :
    SzP (fun K _ => laws_szCavTerm.f K a m) m True := by
  refine SzP.fn (fun k => laws_szCavTerm.f_eq k a m) ?_
  rw [wrap_id (x := m - (a.1.size : Int)) (by omega) (by omega), wrap_id (x := m - (a.1.size : Int) - (a.2.2.1.size : Int)) (by omega) (by omega)]
  refine SzP.cut (by omega) fun _ => SzP.cut (by omega) fun _ => SzP.bind (szAtom_ok _ _ (by omega) (by omega) hz hw) (by omega) fun r _ _ _ => SzP.now (by omega) (by omega) trivial
theorem szParamS_ok (l : List PT) (m : Int) (h0 : 0 ≤ m) (h1 : m ≤ 1048576) (hl : l.length ≤ 140737488351232) (hx : ∀ a ∈ l, a.1.size ≤ 140737488351232) : SzP (fun K _ => laws_szParamS.f K l m) m (l.length ≤ 1048576) := by
  refine SzP.fn (fun k => laws_szParamS.f_eq k l m) ?_
  rw [wrap_id (x := m - (l.length : Int)) (by omega) (by omega)]
  refine SzP.cut (by omega) fun hc => ?_
  have step : ∀ (i : Nat) (h : i < l.length) (m : Int), 0 ≤ m → m ≤ 1048576 → Ev (fun K j => laws_szParamS.l16 K j l m (i : Int)) (-1) ∨ ∃ m', 0 ≤ m' ∧ m' ≤ m ∧ ∀ r, Ev (fun K j => laws_szParamS.l16 K j l m' ((i + 1 : Nat) : Int)) r → Ev (fun K j => laws_szParamS.l16 K j l m (i : Int)) r := by
    intro i h m h0 h1
    obtain ⟨r, q, q1, q2, _⟩ := szParam_ok l[i] m h0 h1 (hx _ (List.getElem_mem h))
    by_cases hr : r < 0
    · refine .inl (Ev.lp (fun K j => laws_szParamS.l16_eq K j l m i) (Ev.yes (by omega) (Ev.yes (by omega) ?_)))
      rw [rd_at _ _ _ h]; exact q.bind (Ev.yes hr (Ev.now _))
    · refine .inr ⟨r, by omega, q2, fun s hs => Ev.lp (fun K j => laws_szParamS.l16_eq K j l m i) (Ev.yes (by omega) (Ev.yes (by omega) ?_))⟩
      rw [rd_at _ _ _ h, wrap_nat (by omega)]; exact q.bind (Ev.no hr hs)
  obtain ⟨r, q, q1, q2⟩ := sz_loop (L := fun K j m i => laws_szParamS.l16 K j l m i) step (fun m => Ev.lp (fun K j => laws_szParamS.l16_eq K j l m _) (Ev.no (by omega) (Ev.now _))) l.length 0 (m - l.length) (by omega) (by omega) (by omega)
  exact ⟨r, Ev.diag q, q1, by omega, fun _ => by omega⟩
theorem szCavTermS_ok (l : List CT) (m : Int) (h0 : 0 ≤ m) (h1 : m ≤ 1048576) (hl : l.length ≤ 140737488351232) (hx : ∀ a ∈ l, a.1.size ≤ 140737488351232 ∧ a.2.2.1.size ≤ 140737488351232 ∧ a.2.2.2.1.2.2.1.size ≤ 140737488351232 ∧ a.2.2.2.1.2.2.2.1.size ≤ 140737488351232) :
    SzP (fun K _ => laws_szCavTermS.f K l m) m (l.length ≤ 1048576) := by
  refine SzP.fn (fun k => laws_szCavTermS.f_eq k l m) ?_
  rw [wrap_id (x := m - (l.length : Int)) (by omega) (by omega)]
  refine SzP.cut (by omega) fun hc => ?_
  have step : ∀ (i : Nat) (h : i < l.length) (m : Int), 0 ≤ m → m ≤ 1048576 → Ev (fun K j => laws_szCavTermS.l16 K j l m (i : Int)) (-1) ∨ ∃ m', 0 ≤ m' ∧ m' ≤ m ∧ ∀ r, Ev (fun K j => laws_szCavTermS.l16 K j l m' ((i + 1 : Nat) : Int)) r → Ev (fun K j => laws_szCavTermS.l16 K j l m (i : Int)) r := by
    intro i h m h0 h1
    obtain ⟨r, q, q1, q2, _⟩ := have z := hx _ (List.getElem_mem h); szCavTerm_ok l[i] m h0 h1 z.1 z.2.1 z.2.2.1 z.2.2.2
    by_cases hr : r < 0
    · refine .inl (Ev.lp (fun K j => laws_szCavTermS.l16_eq K j l m i) (Ev.yes (by omega) (Ev.yes (by omega) ?_)))
      rw [rd_at _ _ _ h]; exact q.bind (Ev.yes hr (Ev.now _))
    · refine .inr ⟨r, by omega, q2, fun s hs => Ev.lp (fun K j => laws_szCavTermS.l16_eq K j l m i) (Ev.yes (by omega) (Ev.yes (by omega) ?_))⟩
      rw [rd_at _ _ _ h, wrap_nat (by omega)]; exact q.bind (Ev.no hr hs)
  obtain ⟨r, q, q1, q2⟩ := sz_loop (L := fun K j m i => laws_szCavTermS.l16 K j l m i) step (fun m => Ev.lp (fun K j => laws_szCavTermS.l16_eq K j l m _) (Ev.no (by omega) (Ev.now _))) l.length 0 (m - l.length) (by omega) (by omega) (by omega)
  exact ⟨r, Ev.diag q, q1, by omega, fun _ => by omega⟩
theorem wf_i64 {x : Int} (h : (Lit.int .i64 x).wf = true) : -9223372036854775808 ≤ x ∧ x < 9223372036854775808 := by
  simp [Lit.wf, IntKind.min, IntKind.max, IntKind.signed, IntKind.bits] at h
  omega
theorem Pure.FnExactGoodCaveat : laws_FnExactGoodCaveat.Pure := by
  rintro ⟨a, l, tm, ⟨⟩⟩ ⟨ha, ⟨hl, fl0⟩, ⟨hm, fm0⟩, _⟩
  apply Ev.rounds
  have fl : fitP l := fun x hx => (fl0 x hx).1
  have fm : fitC tm := fun x hx => by
    obtain ⟨_, _, _, ⟨_, h2, h3, h4, _⟩, _⟩ := fm0 x hx
    exact ⟨wf_i64 h2, h3, h4⟩
  have Z : SzP (fun K _ => laws_szCaveat.f K (a, l, tm, ()) 1048576) 1048576 (l.length ≤ 1048576 ∧ tm.length ≤ 1048576) := by
    refine SzP.fn (fun k => laws_szCaveat.f_eq k (a, l, tm, ()) 1048576) ?_
    have ha' : a.size ≤ 140737488351232 := ha
    have e1 : wrap64 (1048576 - (a.size : Int)) = 1048576 - (a.size : Int) := wrap_id (by omega) (by omega)
    rw [show wrap64 (1048576 - (((a, l, tm, ()) : T34).1.size : Int)) = 1048576 - (a.size : Int) from e1]
    refine SzP.cut (by omega) fun h1 => SzP.bind (szParamS_ok l _ (by omega) (by omega) hl fl) (by omega) fun r r0 r1 p => ?_
    refine SzP.bind ((szCavTermS_ok tm r (by omega) (by omega) hm fun x hx => ?_)) (by omega) fun q q0 q1 p' => SzP.now (by omega) (by omega) ⟨p, p'⟩
    obtain ⟨z1, _, z2, ⟨_, _, z3, z4, _⟩, _⟩ := fm0 x hx
    exact ⟨z1, z2, z3, z4⟩
  obtain ⟨z, e, _, _, hz⟩ := Z
  refine Ev.fn (fun k => laws_FnExactGoodCaveat.f_eq k (a, l, tm, ())) (e.bind (Ev.ite (fun _ => Ev.now _) fun h => ?_))
  obtain ⟨pl, pm⟩ := hz (by omega)
  have T : Ev (fun K _ => laws_toCaveat.f K (a, l, tm, ())) (a, l, tm, ()) := Ev.fn (fun k => laws_toCaveat.f_eq k (a, l, tm, ())) ((toParamS_ev l pl).bind ((toCavTermS_ev tm pm).bind (Ev.now _)))
  have Q : Ev (fun K _ => laws_eqCaveat.f K (a, l, tm, ()) (a, l, tm, ())) true := Ev.fn (fun k => laws_eqCaveat.f_eq k _ _) (Ev.yes rfl ((eqParamS_ev l pl).bind (Ev.yes rfl ((eqCavTermS_ev tm pm).bind (Ev.yes rfl (Ev.now _))))))
  exact T.bind ((spec_GoodCaveat_ev a l tm ha hl fl hm fm).bind (T.bind ((impl_GoodCaveat_ev a l tm ha hl fl hm fm).bind (Ev.no (by simp) (T.bind (Q.bind (Ev.yes rfl (Ev.now _))))))))

end Go.Proofs.Ytcgiegkcmofhhab.PFnExactGoodCaveat
