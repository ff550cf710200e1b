/- The program's PublicOf answers what the reference's answers, for every number.
Conditions: none but the row's own. -/
import Derived.Test.YticgmgbbdicgdaaPFnExactPublicOfx1
namespace Go.Proofs.Yticgmgbbdicgdaa.Pure
open Go.RowKit Go.Proofs.Yticgmgbbdicgdaa.PFnExactPublicOf Go.Proofs.YticgmgbbdicgdaaW.PrintWords Go.Proofs.YticgmgbbdicgdaaW.PrintLast
set_option linter.unusedVariables false
set_option linter.unusedSimpArgs false

/-! ### from some number of rounds on -/
theorem Ev.yes {α : Type} {c : Prop} {inst : Decidable c} {A B : Nat → Option α} {r : α} (h : c) (k : Ev A r) : Ev (fun n => @ite _ c inst (A n) (B n)) r :=
  k.congr fun n => if_pos h
theorem Ev.no {α : Type} {c : Prop} {inst : Decidable c} {A B : Nat → Option α} {r : α} (h : ¬ c) (k : Ev B r) : Ev (fun n => @ite _ c inst (A n) (B n)) r :=
  k.congr fun n => if_neg h
theorem Ev.ite {α : Type} {c : Prop} {inst : Decidable c} {A B : Nat → Option α} {r : α} (h : c → Ev A r) (k : ¬ c → Ev B r) : Ev (fun n => @ite _ c inst (A n) (B n)) r := by
  by_cases e : c
  · exact Ev.yes e (h e)
  · exact Ev.no e (k e)
theorem Ev.some {α : Type} {a r : α} (h : a = r) : Ev (fun _ => some a) r := h ▸ Ev.now a
/-- A callee without rounds. -/
theorem Ev.call {α β : Type} {g : Option α} {f : Nat → α → Option β} {a : α} {r : β} (h : g = Option.some a) (k : Ev (fun n => f n a) r) : Ev (fun n => g.bind (f n)) r := by
  refine k.congr fun n => ?_
  rw [h]; rfl
theorem Ev.tail {α : Type} {g : Nat → Option α} {r : α} (h : Ev g r) : Ev (fun n => (g n).bind fun t => Option.some t) r := h.bind (Ev.now r)
theorem Ev.succ {α : Type} {g : Nat → Option α} {r : α} (h : Ev (fun k => g (k + 1)) r) : Ev g r := Ev.step (fun _ => rfl) h
theorem wrap_nat {i : Nat} (h : i < 9000000000000000000) : wrap64 ((i : Int) + 1) = ((i + 1 : Nat) : Int) := by unfold wrap64; omega
theorem wrap_id {x : Int} (h0 : -9223372036854775808 ≤ x) (h1 : x ≤ 9223372036854775807) : wrap64 x = x := by unfold wrap64; omega
theorem bt_nat (s : ByteArray) (i : Nat) (h : i < s.size) : bt s (i : Int) = (bytesOf s)[i]'(by rw [bytesOf_length]; exact h) := by
  have := rd_bytesOf s (i : Int)
  rw [← this]; unfold rd; rw [Int.toNat_natCast, List.getD_eq_getElem?_getD, List.getElem?_eq_getElem (by rw [bytesOf_length]; exact h)]; rfl
theorem drop_bytes (s : ByteArray) (i : Nat) (h : i < s.size) : (bytesOf s).drop i = bt s (i : Int) :: (bytesOf s).drop (i + 1) := by
  rw [bt_nat s i h]; exact List.drop_eq_getElem_cons (by rw [bytesOf_length]; exact h)
theorem bytes_range (s : ByteArray) : ∀ b ∈ bytesOf s, 0 ≤ b ∧ b ≤ 255 := by
  intro b hb
  unfold bytesOf at hb
  obtain ⟨x, _, rfl⟩ := List.mem_map.1 hb
  have := x.toNat_lt
  omega
/-- A loop over a string that asks each byte. -/
theorem loop_all {l : Nat → Int → Option Bool} {p : Int → Bool} {s : ByteArray}
    (yes : ∀ i : Nat, i < s.size → p (bt s i) = true → ∀ r, Ev (fun k => l k ((i + 1 : Nat) : Int)) r → Ev (fun k => l k (i : Int)) r)
    (no : ∀ i : Nat, i < s.size → p (bt s i) = false → Ev (fun k => l k (i : Int)) false)
    (done : Ev (fun k => l k (s.size : Int)) true) :
    ∀ (d i : Nat), s.size = i + d → Ev (fun k => l k (i : Int)) (((bytesOf s).drop i).all p) := by
  intro d
  induction d with
  | zero =>
    intro i h
    obtain rfl : i = s.size := by omega
    rw [List.drop_eq_nil_of_le (by rw [bytesOf_length]; exact Nat.le_refl _)]
    exact done
  | succ d ih =>
    intro i h
    rw [drop_bytes s i (by omega), List.all_cons]
    cases hp : p (bt s i) with
    | true => rw [Bool.true_and]; exact yes i (by omega) hp _ (ih (i + 1) (by omega))
    | false => rw [Bool.false_and]; exact no i (by omega) hp
/-! ### bits of whole numbers -/
theorem wraps_i64 (n : Int) (h₀ : 0 ≤ n) (h₁ : n < 2 ^ 63) : IntKind.i64.wrap n = n := by rw [IntKind.wrap_i64]; omega
theorem i64_mask (j : Nat) (hj : j ≤ 63) (x : Int) (h₀ : 0 ≤ x) (h₁ : x < 9223372036854775808) : Go.bits .and .i64 x (2 ^ j - 1) = x % 2 ^ j :=
  bits_mask .i64 63 (by decide) wraps_i64 j hj x h₀ (by omega)
theorem i64_and1 (x : Int) (h₀ : 0 ≤ x) (h₁ : x < 9223372036854775808) : Go.bits .and .i64 x 1 = x % 2 := i64_mask 1 (by decide) x h₀ h₁
theorem i64_join (j : Nat) (x y : Int) (hx₀ : 0 ≤ x) (hx : x % 2 ^ j = 0) (hx₁ : x < 9223372036854775808) (hy₀ : 0 ≤ y) (hy : y < 2 ^ j) (hy₁ : y < 9223372036854775808) : Go.bits .or .i64 x y = x + y :=
  bits_join .i64 63 (by decide) wraps_i64 j x y hx₀ hx (by omega) hy₀ hy (by omega)
theorem shr_nat (x : Int) (i : Nat) (h : i ≤ 64) : shr .i64 x (i : Int) = x / 2 ^ i := by
  unfold shr
  rw [Int.toNat_natCast, Nat.min_eq_left (by simpa [IntKind.bits] using h)]
theorem u64_nat (i : Nat) (h : i < 9000000000000000000) : IntKind.u64.wrap (i : Int) = (i : Int) := by
  simp [IntKind.wrap, IntKind.bits, IntKind.signed]; omega
/-! ### powers modulo a number -/
theorem emod_mul_emod (a b m : Int) : (a % m * (b % m)) % m = (a * b) % m := (Int.mul_emod a b m).symm
theorem emod_mul_left (a b m : Int) : (a % m * b) % m = (a * b) % m := by rw [Int.mul_emod, Int.emod_emod_of_dvd a (Int.dvd_refl m), ← Int.mul_emod]
theorem emod_mul_right (a b m : Int) : (a * (b % m)) % m = (a * b) % m := by rw [Int.mul_emod, Int.emod_emod_of_dvd b (Int.dvd_refl m), ← Int.mul_emod]
theorem emod_pow (a m : Int) (n : Nat) : ((a % m) ^ n) % m = (a ^ n) % m := by
  induction n with
  | zero => rw [Int.pow_zero, Int.pow_zero]
  | succ n ih => rw [Int.pow_succ, Int.pow_succ, ← emod_mul_left, ih, emod_mul_left, emod_mul_right]
theorem mul_bound {a b m : Int} (ha : 0 ≤ a) (ha' : a < m) (hb : 0 ≤ b) (hb' : b < m) (hm : m ≤ 3000000000) : 0 ≤ a * b ∧ a * b ≤ 9000000000000000000 := by
  refine ⟨Int.mul_nonneg ha hb, ?_⟩
  have h1 : a * b ≤ 3000000000 * b := Int.mul_le_mul_of_nonneg_right (by omega) hb
  omega
theorem tmul {a b m : Int} (ha : 0 ≤ a) (ha' : a < m) (hb : 0 ≤ b) (hb' : b < m) (hm : m ≤ 3000000000) : Int.tmod (wrap64 (a * b)) m = (a * b) % m := by
  have h := mul_bound ha ha' hb hb' hm
  rw [wrap_id (by omega) (by omega), Int.tmod_eq_emod_of_nonneg h.1]
theorem mod_bound (a : Int) {m : Int} (h : 0 < m) : 0 ≤ a % m ∧ a % m < m := ⟨Int.emod_nonneg _ (by omega), Int.emod_lt_of_pos _ h⟩
def powM (b e m : Int) : Int := (b ^ e.toNat) % m
theorem impl_ypow_l0 (m : Int) (h1 : 0 < m) (hm : m ≤ 3000000000) : ∀ (n : Nat) (e b r : Int), e.toNat ≤ n → 0 ≤ e → e < 9223372036854775808 → 0 ≤ b → b < m → 0 ≤ r → r < m →
    Ev (fun k => impl_ypow.l0 k b e m r) ((r * b ^ e.toNat) % m) := by
  intro n
  induction n with
  | zero =>
    intro e b r hn h0 he hb hb' hr hr'
    obtain rfl : e = 0 := by omega
    refine Ev.step (fun _ => rfl) (Ev.no (by omega) (Ev.some ?_))
    rw [Int.toNat_zero, Int.pow_zero, Int.mul_one, Int.emod_eq_of_lt hr hr']
  | succ n ih =>
    intro e b r hn h0 he hb hb' hr hr'
    by_cases hz : e = 0
    · obtain rfl := hz
      refine Ev.step (fun _ => rfl) (Ev.no (by omega) (Ev.some ?_))
      rw [Int.toNat_zero, Int.pow_zero, Int.mul_one, Int.emod_eq_of_lt hr hr']
    · have hbb := mod_bound (b * b) h1
      have hrb := mod_bound (r * b) h1
      have he2 : e.toNat = 2 * (e / 2).toNat + (e % 2).toNat := by omega
      have hsq : ((b * b) % m) ^ (e / 2).toNat % m = (b ^ (2 * (e / 2).toNat)) % m := by
        rw [emod_pow]; congr 1; rw [Int.pow_mul]; congr 1; rw [Int.pow_succ, Int.pow_succ, Int.pow_zero, Int.one_mul]
      refine Ev.step (fun _ => rfl) (Ev.yes (by omega) ?_)
      rw [i64_and1 e h0 he]
      refine Ev.ite (fun hodd => Ev.no (by omega) ?_) (fun hev => Ev.no (by omega) ?_)
      · rw [tmul hb hb' hb hb' hm, tmul hr hr' hb hb' hm]
        have h := ih (e / 2) ((b * b) % m) ((r * b) % m) (by omega) (by omega) (by omega) hbb.1 hbb.2 hrb.1 hrb.2
        have hx : ((r * b) % m * ((b * b) % m) ^ (e / 2).toNat) % m = (r * b ^ e.toNat) % m := by
          rw [emod_mul_left, ← emod_mul_right, hsq, emod_mul_right, he2, hodd, Int.pow_add, Int.mul_assoc]
          congr 2
          show b * _ = _ * b ^ 1
          rw [Int.pow_succ, Int.pow_zero, Int.one_mul, Int.mul_comm]
        rw [hx] at h
        exact h
      · rw [tmul hb hb' hb hb' hm]
        have h := ih (e / 2) ((b * b) % m) r (by omega) (by omega) (by omega) hbb.1 hbb.2 hr hr'
        have hx : (r * ((b * b) % m) ^ (e / 2).toNat) % m = (r * b ^ e.toNat) % m := by
          rw [← emod_mul_right, hsq, emod_mul_right, he2, show (e % 2).toNat = 0 from by omega, Nat.add_zero]
        rw [hx] at h
        exact h
theorem impl_ypow_ev (b e m : Int) (h1 : 1 < m) (hm : m ≤ 3000000000) (hb : 0 ≤ b) (h0 : 0 ≤ e) (he : e < 9223372036854775808) : Ev (fun k => impl_ypow.f k b e m) (powM b e m) := by
  unfold impl_ypow.f powM
  refine Ev.no (by omega) ?_
  rw [Int.tmod_eq_emod_of_nonneg hb]
  have hbb := mod_bound b (show 0 < m by omega)
  have h := impl_ypow_l0 m (by omega) hm e.toNat e (b % m) 1 (Nat.le_refl _) h0 he hbb.1 hbb.2 (by omega) (by omega)
  rw [Int.one_mul, emod_pow] at h
  exact h
theorem spec_l2Power_l0 (a e m : Int) (h1 : 0 < m) (hm : m ≤ 3000000000) (ha : 0 ≤ a) (ha' : a < 3000000000) (h0 : 0 ≤ e) (he : e < 9223372036854775808) : ∀ (n : Nat), n ≤ 41 →
    Ev (fun k => spec_l2Power.l0 k a e m ((a ^ (e / 2 ^ n).toNat) % m) ((n : Int) - 1)) ((a ^ e.toNat) % m) := by
  intro n
  induction n with
  | zero =>
    intro _
    refine Ev.step (fun _ => rfl) (Ev.no (by omega) (Ev.some ?_))
    rw [Int.pow_zero, Int.ediv_one]
  | succ n ih =>
    intro hn
    have h := ih (by omega)
    have hi : ((n + 1 : Nat) : Int) - 1 = (n : Int) := by omega
    rw [hi]
    refine Ev.step (fun _ => rfl) (Ev.yes (by omega) (Ev.no (by omega) ?_))
    rw [u64_nat n (by omega), shr_nat e n (by omega)]
    have hp : (0 : Int) < 2 ^ n := Int.pow_pos (by decide)
    have q0 : 0 ≤ e / 2 ^ n := Int.ediv_nonneg h0 (by omega)
    have q1 : e / 2 ^ n ≤ e := Int.ediv_le_self _ h0
    have hd : e / 2 ^ (n + 1) = e / 2 ^ n / 2 := by rw [Int.pow_succ, Int.ediv_ediv_of_nonneg (by omega)]
    generalize e / 2 ^ n = q at *
    rw [hd, i64_and1 _ q0 (by omega)]
    have hb := mod_bound (a ^ (q / 2).toNat) h1
    have hq : q.toNat = (q / 2).toNat + (q / 2).toNat + (q % 2).toNat := by omega
    have hsq : ((a ^ (q / 2).toNat) % m * ((a ^ (q / 2).toNat) % m)) % m = (a ^ ((q / 2).toNat + (q / 2).toNat)) % m := by rw [emod_mul_emod, Int.pow_add]
    have hw : wrap64 ((n : Int) - 1) = (n : Int) - 1 := wrap_id (by omega) (by omega)
    rw [hw]
    refine Ev.yes (by omega) ?_
    rw [tmul hb.1 hb.2 hb.1 hb.2 hm, hsq]
    refine Ev.ite (fun hodd => ?_) (fun hev => ?_)
    · have hb2 := mod_bound (a ^ ((q / 2).toNat + (q / 2).toNat)) h1
      have hx : Int.tmod (wrap64 ((a ^ ((q / 2).toNat + (q / 2).toNat)) % m * a)) m = (a ^ q.toNat) % m := by
        have h3 : 0 ≤ (a ^ ((q / 2).toNat + (q / 2).toNat)) % m * a := Int.mul_nonneg hb2.1 ha
        have h4 : (a ^ ((q / 2).toNat + (q / 2).toNat)) % m * a ≤ 3000000000 * a := Int.mul_le_mul_of_nonneg_right (by omega) ha
        rw [wrap_id (by omega) (by omega), Int.tmod_eq_emod_of_nonneg h3, emod_mul_left, hq, hodd, Int.pow_add _ (_ + _)]
        congr 2
        show a = a ^ 1
        rw [Int.pow_succ, Int.pow_zero, Int.one_mul]
      rw [hx]
      exact h
    · rw [show (q / 2).toNat + (q / 2).toNat = q.toNat from by omega]
      exact h
theorem spec_l2Power_ev (a e m : Int) (h1 : 1 < m) (hm : m ≤ 3000000000) (ha : 0 ≤ a) (ha' : a < 3000000000) (h0 : 0 ≤ e) (he : e < 2199023255552) : Ev (fun k => spec_l2Power.f k a e m) (powM a e m) := by
  unfold spec_l2Power.f powM
  have h := spec_l2Power_l0 a e m (by omega) hm ha ha' h0 (by omega) 41 (Nat.le_refl _)
  have hz : e / 2 ^ 41 = 0 := Int.ediv_eq_zero_of_lt h0 (by omega)
  rw [hz, Int.toNat_zero, Int.pow_zero, Int.emod_eq_of_lt (by omega) h1] at h
  exact h
theorem FnExactPublicOf : laws_FnExactPublicOf.Pure := by
  intro a _
  apply Ev.rounds
  unfold laws_FnExactPublicOf.f spec_PublicOf.f impl_PublicOf.f spec_l2Secret.f impl_ysecret.f
  by_cases h : 1 ≤ a ∧ a < 1073741789
  · have e1 := spec_l2Power_ev 4 a 2147483579 (by omega) (by omega) (by omega) (by omega) (by omega) (by omega)
    have e2 := impl_ypow_ev 4 a 2147483579 (by omega) (by omega) (by omega) (by omega) (by omega)
    simp only [ge_iff_le, if_pos h.1, h.2, decide_true, Option.bind_some, if_true]
    exact (Ev.tail e1).bind ((Ev.tail e2).bind (Ev.yes rfl (Ev.now _)))
  · by_cases h1 : 1 ≤ a
    · simp only [ge_iff_le, if_pos h1, show ¬ a < 1073741789 from by omega, decide_false, Option.bind_some, Bool.false_eq_true, if_false, if_true]
      exact Ev.now _
    · simp only [ge_iff_le, if_neg h1, Option.bind_some, Bool.false_eq_true, if_false, if_true]
      exact Ev.now _

end Go.Proofs.Yticgmgbbdicgdaa.Pure
