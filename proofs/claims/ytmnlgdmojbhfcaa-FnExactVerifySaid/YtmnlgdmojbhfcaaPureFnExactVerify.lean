/- The program's Verify answers what the reference's answers, for every number, all bytes and every signature.
Conditions: none but the row's own. -/
import Derived.Test.YtmnlgdmojbhfcaaFitFnExactVerify
namespace Go.Proofs.Ytmnlgdmojbhfcaa.Pure
open Go.RowKit Go.Proofs.Ytmnlgdmojbhfcaa.PFnExactVerify Go.Proofs.YtmnlgdmojbhfcaaW.PrintWords Go.Proofs.YtmnlgdmojbhfcaaW.PrintLast Go.Proofs.YtmnlgdmojbhfcaaOpen
set_option linter.unusedVariables false
set_option linter.unusedSimpArgs false

/-! ### from some number of rounds on -/
theorem Ev.yes {α : Type} {c : Prop} {inst : Decidable c} {A B : Nat → Option α} {r : α} (h : c) (k : Ev A r) : Ev (fun n => @ite _ c inst (A n) (B n)) r :=
  k.congr fun n => if_pos h
theorem Ev.no {α : Type} {c : Prop} {inst : Decidable c} {A B : Nat → Option α} {r : α} (h : ¬ c) (k : Ev B r) : Ev (fun n => @ite _ c inst (A n) (B n)) r :=
  k.congr fun n => if_neg h
theorem Ev.ite {α : Type} {c : Prop} {inst : Decidable c} {A B : Nat → Option α} {r : α} (h : c → Ev A r) (k : ¬ c → Ev B r) : Ev (fun n => @ite _ c inst (A n) (B n)) r := by
  by_cases e : c
  · exact Ev.yes e (h e)
  · exact Ev.no e (k e)
theorem Ev.some {α : Type} {a r : α} (h : a = r) : Ev (fun _ => some a) r := h ▸ Ev.now a
/-- A callee without rounds. -/
theorem Ev.call {α β : Type} {g : Option α} {f : Nat → α → Option β} {a : α} {r : β} (h : g = Option.some a) (k : Ev (fun n => f n a) r) : Ev (fun n => g.bind (f n)) r := by
  refine k.congr fun n => ?_
  rw [h]; rfl
theorem Ev.tail {α : Type} {g : Nat → Option α} {r : α} (h : Ev g r) : Ev (fun n => (g n).bind fun t => Option.some t) r := h.bind (Ev.now r)
theorem Ev.succ {α : Type} {g : Nat → Option α} {r : α} (h : Ev (fun k => g (k + 1)) r) : Ev g r := Ev.step (fun _ => rfl) h
theorem wrap_nat {i : Nat} (h : i < 9000000000000000000) : wrap64 ((i : Int) + 1) = ((i + 1 : Nat) : Int) := by unfold wrap64; omega
theorem wrap_id {x : Int} (h0 : -9223372036854775808 ≤ x) (h1 : x ≤ 9223372036854775807) : wrap64 x = x := by unfold wrap64; omega
theorem bt_nat (s : ByteArray) (i : Nat) (h : i < s.size) : bt s (i : Int) = (bytesOf s)[i]'(by rw [bytesOf_length]; exact h) := by
  have := rd_bytesOf s (i : Int)
  rw [← this]; unfold rd; rw [Int.toNat_natCast, List.getD_eq_getElem?_getD, List.getElem?_eq_getElem (by rw [bytesOf_length]; exact h)]; rfl
theorem drop_bytes (s : ByteArray) (i : Nat) (h : i < s.size) : (bytesOf s).drop i = bt s (i : Int) :: (bytesOf s).drop (i + 1) := by
  rw [bt_nat s i h]; exact List.drop_eq_getElem_cons (by rw [bytesOf_length]; exact h)
theorem bytes_range (s : ByteArray) : ∀ b ∈ bytesOf s, 0 ≤ b ∧ b ≤ 255 := by
  intro b hb
  unfold bytesOf at hb
  obtain ⟨x, _, rfl⟩ := List.mem_map.1 hb
  have := x.toNat_lt
  omega
/-- A loop over a string that asks each byte. -/
theorem loop_all {l : Nat → Int → Option Bool} {p : Int → Bool} {s : ByteArray}
    (yes : ∀ i : Nat, i < s.size → p (bt s i) = true → ∀ r, Ev (fun k => l k ((i + 1 : Nat) : Int)) r → Ev (fun k => l k (i : Int)) r)
    (no : ∀ i : Nat, i < s.size → p (bt s i) = false → Ev (fun k => l k (i : Int)) false)
    (done : Ev (fun k => l k (s.size : Int)) true) :
    ∀ (d i : Nat), s.size = i + d → Ev (fun k => l k (i : Int)) (((bytesOf s).drop i).all p) := by
  intro d
  induction d with
  | zero =>
    intro i h
    obtain rfl : i = s.size := by omega
    rw [List.drop_eq_nil_of_le (by rw [bytesOf_length]; exact Nat.le_refl _)]
    exact done
  | succ d ih =>
    intro i h
    rw [drop_bytes s i (by omega), List.all_cons]
    cases hp : p (bt s i) with
    | true => rw [Bool.true_and]; exact yes i (by omega) hp _ (ih (i + 1) (by omega))
    | false => rw [Bool.false_and]; exact no i (by omega) hp
/-! ### lists of numbers, and what the law's own functions do with bytes -/
theorem rd_nat (l : List Int) (i : Nat) (h : i < l.length) : rd l (i : Int) = l[i] := by
  unfold rd; rw [Int.toNat_natCast, List.getD_eq_getElem?_getD, List.getElem?_eq_getElem h]; rfl
theorem set_step {β : Type} (xs : List β) (z : β) (i : Nat) (h : i < xs.length) :
    (xs.take i ++ List.replicate (xs.length - i) z).set i xs[i] = xs.take (i + 1) ++ List.replicate (xs.length - (i + 1)) z := by
  obtain ⟨d, hd⟩ : ∃ d, xs.length - i = d + 1 := ⟨xs.length - i - 1, by omega⟩
  rw [hd, show xs.length - (i + 1) = d by omega, List.replicate_succ, List.set_append_right _ _ (by simp; omega)]
  rw [show i - (xs.take i).length = 0 by simp; omega, List.set_cons_zero, List.take_succ_eq_append_getElem h, List.append_assoc]; rfl
theorem fill_len {β : Type} (xs : List β) (z : β) (i : Nat) (h : i ≤ xs.length) : (xs.take i ++ List.replicate (xs.length - i) z).length = xs.length := by simp; omega
theorem toByteS_l0 (l : List Int) (hl : l.length ≤ 1048576) : ∀ (d i : Nat), l.length = i + d → Ev (fun k => laws_toByteS.l0 k l (l.take i ++ List.replicate (l.length - i) 0) (i : Int)) l := by
  intro d
  induction d with
  | zero =>
    intro i h
    refine Ev.succ ?_
    simp only [laws_toByteS.l0]
    refine Ev.no (by omega) (Ev.some ?_)
    rw [show l.length - i = 0 by omega, List.replicate_zero, List.append_nil, List.take_of_length_le (by omega)]
  | succ d ih =>
    intro i h
    refine Ev.succ ?_
    simp only [laws_toByteS.l0]
    refine Ev.yes (by omega) (Ev.yes (by omega) (Ev.yes (by rw [fill_len _ _ _ (by omega)]; omega) ?_))
    have z := ih (i + 1) (by omega)
    rw [wrap_nat (by omega), Int.toNat_natCast, rd_nat l i (by omega), set_step l 0 i (by omega)]
    exact z
theorem toByteS_ev (l : List Int) (hl : l.length ≤ 1048576) : Ev (fun k => laws_toByteS.f k l) l := by
  unfold laws_toByteS.f
  refine Ev.yes (by omega) (Ev.yes (by omega) ?_)
  exact toByteS_l0 l hl l.length 0 (by omega)
theorem eqByteS_l0 (a b : List Int) (hl : a.length ≤ 1048576) (hab : a.length = b.length) : ∀ (d i : Nat), a.length = i + d → Ev (fun k => laws_eqByteS.l0 k a b (i : Int)) (decide (a.drop i = b.drop i)) := by
  intro d
  induction d with
  | zero =>
    intro i h
    refine Ev.succ ?_
    simp only [laws_eqByteS.l0]
    refine Ev.no (by omega) (Ev.some ?_)
    rw [List.drop_eq_nil_of_le (by omega), List.drop_eq_nil_of_le (by omega)]; rfl
  | succ d ih =>
    intro i h
    refine Ev.succ ?_
    simp only [laws_eqByteS.l0]
    refine Ev.yes (by omega) (Ev.yes (by omega) (Ev.yes (by omega) ?_))
    have z := ih (i + 1) (by omega)
    rw [rd_nat a i (by omega), rd_nat b i (by omega), wrap_nat (by omega)]
    rw [List.drop_eq_getElem_cons (show i < a.length by omega), List.drop_eq_getElem_cons (show i < b.length by omega)]
    refine Ev.ite (fun e => ?_) (fun e => Ev.some ?_)
    · have : decide (a[i] :: a.drop (i + 1) = b[i] :: b.drop (i + 1)) = decide (a.drop (i + 1) = b.drop (i + 1)) := by
        rw [decide_eq_decide]
        exact ⟨fun h => (List.cons.inj h).2, fun h => by rw [e, h]⟩
      rw [this]; exact z
    · rw [eq_comm, decide_eq_false_iff_not]; exact fun h => e (List.cons.inj h).1
theorem eqByteS_ev (a b : List Int) (hl : a.length ≤ 1048576) : Ev (fun k => laws_eqByteS.f k a b) (decide (a = b)) := by
  unfold laws_eqByteS.f
  refine Ev.ite (fun h => ?_) (fun h => Ev.some ?_)
  · exact eqByteS_l0 a b hl (by omega) a.length 0 (by omega)
  · rw [eq_comm, decide_eq_false_iff_not]; intro e; exact h (by rw [e])
theorem eqByteS_self (a : List Int) (hl : a.length ≤ 1048576) : Ev (fun k => laws_eqByteS.f k a a) true := by
  have h := eqByteS_ev a a hl; rwa [decide_eq_true rfl] at h
/-! ### the digest -/
def lst4 (s : M4) : List Int := [s.1, s.2.1, s.2.2.1, s.2.2.2]
def Fit4 (s : M4) : Prop := (0 ≤ s.1 ∧ s.1 < 2147483579) ∧ (0 ≤ s.2.1 ∧ s.2.1 < 2147483579) ∧ (0 ≤ s.2.2.1 ∧ s.2.2.1 < 2147483579) ∧ (0 ≤ s.2.2.2 ∧ s.2.2.2 < 2147483579)
theorem mixV_fit {a m x b : Int} (ha : 0 ≤ a ∧ a < 2147483579) (hm : 0 ≤ m ∧ m < 2147483579) (hx : 0 ≤ x ∧ x ≤ 255) (hb : 0 ≤ b ∧ b < 2147483579) : 0 ≤ mixV a m x b ∧ mixV a m x b < 2147483579 := by
  unfold mixV
  have h1 : 0 ≤ a * m := Int.mul_nonneg ha.1 hm.1
  have h2 : a * m ≤ 2147483579 * m := Int.mul_le_mul_of_nonneg_right (by omega) hm.1
  have h3 : 2147483579 * m ≤ 2147483579 * 2147483579 := Int.mul_le_mul_of_nonneg_left (by omega) (by omega)
  generalize a * m = p at *
  have e : wrap64 (wrap64 (wrap64 (wrap64 p + wrap64 x) + 1) + b) = p + x + 1 + b := by unfold wrap64; omega
  rw [e, Int.tmod_eq_emod_of_nonneg (by omega)]
  omega
theorem eatV_fit {s : M4} {x : Int} (h : Fit4 s) (hx : 0 ≤ x ∧ x ≤ 255) : Fit4 (eatV s x) := by
  obtain ⟨h1, h2, h3, h4⟩ := h
  have k1 := mixV_fit h1 (m := 1103515245) (by omega) hx h2
  exact ⟨k1, mixV_fit h2 (by omega) hx h3, mixV_fit h3 (by omega) hx h4, mixV_fit h4 (by omega) hx k1⟩
theorem fold_fit (l : List Int) : ∀ (s : M4), Fit4 s → (∀ x ∈ l, 0 ≤ x ∧ x ≤ 255) → Fit4 (l.foldl eatV s) := by
  induction l with
  | nil => intro s h _; exact h
  | cons x l ih => intro s h hx; exact ih _ (eatV_fit h (hx x (by simp))) (fun y hy => hx y (by simp [hy]))
theorem ybytes_bytes (n : Int) : ∀ x ∈ ybytesV n, 0 ≤ x ∧ x ≤ 255 := by
  intro x hx
  simp only [ybytesV, List.mem_cons, List.not_mem_nil, or_false] at hx
  rcases hx with rfl | rfl | rfl | rfl <;> omega
theorem zeros_bytes (n : Nat) : ∀ x ∈ List.replicate n (0 : Int), 0 ≤ x ∧ x ≤ 255 := by
  intro x hx
  obtain rfl := (List.mem_replicate.1 hx).2
  omega
theorem dig_fit (l : List Int) (h : ∀ x ∈ l, 0 ≤ x ∧ x ≤ 255) : Fit4 (digV l) :=
  fold_fit _ _ (fold_fit _ _ (fold_fit _ _ ⟨by decide, by decide, by decide, by decide⟩ h) (ybytes_bytes _)) (zeros_bytes _)
theorem outV_len (s : M4) : (outV s).length = 16 := rfl
theorem outV_bytes (s : M4) : ∀ x ∈ outV s, 0 ≤ x ∧ x ≤ 255 := by
  intro x hx
  unfold outV at hx
  simp only [List.mem_append] at hx
  rcases hx with ((h | h) | h) | h <;> exact ybytes_bytes _ x h
theorem spec_l2Mix_ev (s : M4) (x : Int) : Ev (fun k => spec_l2Mix.f k (lst4 s) (wrap64 x)) (lst4 (eatV s x)) := by
  refine Ev.of (spec_l2Mix.mono _ _) (k := 5) ?_
  obtain ⟨a, b, c, d⟩ := s
  kernel_rfl
theorem spec_l2Bytes_ev (n : Int) (h0 : 0 ≤ n) (h1 : n < 9223372036854775807) : Ev (fun k => spec_l2Bytes.f k n) (ybytesV n) := by
  refine Ev.of (spec_l2Bytes.mono _) (k := 5) ?_
  have t1 : Int.tdiv n 256 = n / 256 := Int.tdiv_eq_ediv_of_nonneg h0
  have t2 : Int.tdiv (n / 256) 256 = n / 65536 := by rw [Int.tdiv_eq_ediv_of_nonneg (by omega)]; omega
  have t3 : Int.tdiv (n / 65536) 256 = n / 16777216 := by rw [Int.tdiv_eq_ediv_of_nonneg (by omega)]; omega
  have m0 : Int.tmod n 256 % 256 = n % 256 := by rw [Int.tmod_eq_emod_of_nonneg h0]; omega
  have m1 : Int.tmod (n / 256) 256 % 256 = n / 256 % 256 := by rw [Int.tmod_eq_emod_of_nonneg (by omega)]; omega
  have m2 : Int.tmod (n / 65536) 256 % 256 = n / 65536 % 256 := by rw [Int.tmod_eq_emod_of_nonneg (by omega)]; omega
  have m3 : Int.tmod (n / 16777216) 256 % 256 = n / 16777216 % 256 := by rw [Int.tmod_eq_emod_of_nonneg (by omega)]; omega
  have w1 : wrap64 (n / 256) = n / 256 := wrap_id (by omega) (by omega)
  have w2 : wrap64 (n / 65536) = n / 65536 := wrap_id (by omega) (by omega)
  have w3 : wrap64 (n / 16777216) = n / 16777216 := wrap_id (by omega) (by omega)
  have e : spec_l2Bytes.f 5 n = some [Int.tmod n 256 % 256, Int.tmod (wrap64 (Int.tdiv n 256)) 256 % 256, Int.tmod (wrap64 (Int.tdiv (wrap64 (Int.tdiv n 256)) 256)) 256 % 256, Int.tmod (wrap64 (Int.tdiv (wrap64 (Int.tdiv (wrap64 (Int.tdiv n 256)) 256)) 256)) 256 % 256] := by kernel_rfl
  rw [e, t1, w1, t2, w2, t3, w3, m0, m1, m2, m3]
  rfl
theorem rd_lst4 (s : M4) : rd (lst4 s) 0 = s.1 ∧ rd (lst4 s) 1 = s.2.1 ∧ rd (lst4 s) 2 = s.2.2.1 ∧ rd (lst4 s) 3 = s.2.2.2 := ⟨rfl, rfl, rfl, rfl⟩
theorem spec_l2Digest_l3 (s : M4) (h : Fit4 s) : Ev (fun k => spec_l2Digest.l3 k [] (lst4 s) ((lst4 s).length : Int) 0) (outV s) := by
  have len : ((lst4 s).length : Int) = 4 := rfl
  obtain ⟨r0, r1, r2, r3⟩ := rd_lst4 s
  obtain ⟨h1, h2, h3, h4⟩ := h
  rw [len]
  refine Ev.succ ?_
  simp only [spec_l2Digest.l3]
  refine Ev.yes (by omega) (Ev.yes (by omega) (Ev.yes (by rw [len]; omega) ?_))
  rw [r0]
  refine Ev.bind (spec_l2Bytes_ev s.1 (by omega) (by omega)) (Ev.yes (by simp [ybytesV]) ?_)
  rw [show wrap64 (0 + 1) = 1 from by kernel_rfl]
  refine Ev.succ ?_
  simp only [spec_l2Digest.l3]
  refine Ev.yes (by omega) (Ev.yes (by omega) (Ev.yes (by rw [len]; omega) ?_))
  rw [r1]
  refine Ev.bind (spec_l2Bytes_ev s.2.1 (by omega) (by omega)) (Ev.yes (by simp [ybytesV]) ?_)
  rw [show wrap64 (1 + 1) = 2 from by kernel_rfl]
  refine Ev.succ ?_
  simp only [spec_l2Digest.l3]
  refine Ev.yes (by omega) (Ev.yes (by omega) (Ev.yes (by rw [len]; omega) ?_))
  rw [r2]
  refine Ev.bind (spec_l2Bytes_ev s.2.2.1 (by omega) (by omega)) (Ev.yes (by simp [ybytesV]) ?_)
  rw [show wrap64 (2 + 1) = 3 from by kernel_rfl]
  refine Ev.succ ?_
  simp only [spec_l2Digest.l3]
  refine Ev.yes (by omega) (Ev.yes (by omega) (Ev.yes (by rw [len]; omega) ?_))
  rw [r3]
  refine Ev.bind (spec_l2Bytes_ev s.2.2.2 (by omega) (by omega)) (Ev.yes (by simp [ybytesV]) ?_)
  rw [show wrap64 (3 + 1) = 4 from by kernel_rfl]
  refine Ev.succ ?_
  simp only [spec_l2Digest.l3]
  exact Ev.no (by omega) (Ev.now _)
theorem spec_l2Digest_l2 : ∀ (d i : Nat) (s : M4), 8 = i + d → Fit4 s → Ev (fun k => spec_l2Digest.l2 k (lst4 s) (i : Int)) (outV ((List.replicate d (0 : Int)).foldl eatV s)) := by
  intro d
  induction d with
  | zero =>
    intro i s h hs
    refine Ev.succ ?_
    simp only [spec_l2Digest.l2]
    exact Ev.no (by omega) (spec_l2Digest_l3 s hs)
  | succ d ih =>
    intro i s h hs
    refine Ev.succ ?_
    simp only [spec_l2Digest.l2]
    refine Ev.yes (by omega) (Ev.bind (show Ev (fun k => spec_l2Mix.f k (lst4 s) 0) (lst4 (eatV s 0)) from by have z := spec_l2Mix_ev s 0; rwa [show wrap64 0 = 0 from by kernel_rfl] at z) ?_)
    rw [wrap_nat (by omega)]
    exact ih (i + 1) _ (by omega) (eatV_fit hs (by omega))
theorem spec_l2Digest_l1 (l : List Int) (hl : l.length ≤ 1048576) (hb : ∀ x ∈ l, 0 ≤ x ∧ x ≤ 255) : ∀ (d i : Nat) (s : M4), l.length = i + d → Fit4 s →
    Ev (fun k => spec_l2Digest.l1 k (lst4 s) l (l.length : Int) (i : Int)) (outV ((List.replicate 8 (0 : Int)).foldl eatV ((l.drop i).foldl eatV s))) := by
  intro d
  induction d with
  | zero =>
    intro i s h hs
    refine Ev.succ ?_
    simp only [spec_l2Digest.l1]
    rw [List.drop_eq_nil_of_le (by omega)]
    exact Ev.no (by omega) (spec_l2Digest_l2 8 0 s rfl hs)
  | succ d ih =>
    intro i s h hs
    refine Ev.succ ?_
    simp only [spec_l2Digest.l1]
    refine Ev.yes (by omega) (Ev.yes (by omega) (Ev.yes (by omega) ?_))
    rw [rd_nat l i (by omega), wrap_nat (by omega), List.drop_eq_getElem_cons (show i < l.length by omega)]
    exact Ev.bind (spec_l2Mix_ev s _) (ih (i + 1) _ (by omega) (eatV_fit hs (hb _ (List.getElem_mem _))))
theorem spec_l2Digest_l0 (l : List Int) (hl : l.length ≤ 1048576) (hb : ∀ x ∈ l, 0 ≤ x ∧ x ≤ 255) : ∀ (d i : Nat) (s : M4), l.length = i + d → Fit4 s →
    Ev (fun k => spec_l2Digest.l0 k l (lst4 s) l (l.length : Int) (i : Int)) (outV ((List.replicate 8 (0 : Int)).foldl eatV ((ybytesV (l.length : Int)).foldl eatV ((l.drop i).foldl eatV s)))) := by
  intro d
  induction d with
  | zero =>
    intro i s h hs
    refine Ev.succ ?_
    simp only [spec_l2Digest.l0]
    rw [List.drop_eq_nil_of_le (by omega)]
    exact Ev.no (by omega) (Ev.bind (spec_l2Bytes_ev _ (by omega) (by omega)) (spec_l2Digest_l1 _ (by simp [ybytesV]) (ybytes_bytes _) 4 0 s rfl hs))
  | succ d ih =>
    intro i s h hs
    refine Ev.succ ?_
    simp only [spec_l2Digest.l0]
    refine Ev.yes (by omega) (Ev.yes (by omega) (Ev.yes (by omega) ?_))
    rw [rd_nat l i (by omega), wrap_nat (by omega), List.drop_eq_getElem_cons (show i < l.length by omega)]
    exact Ev.bind (spec_l2Mix_ev s _) (ih (i + 1) _ (by omega) (eatV_fit hs (hb _ (List.getElem_mem _))))
def digest (l : List Int) : List Int := outV (digV l)
theorem digest_len (l : List Int) : (digest l).length = 16 := rfl
theorem digest_bytes (l : List Int) : ∀ x ∈ digest l, 0 ≤ x ∧ x ≤ 255 := outV_bytes _
theorem spec_l2Digest_ev (l : List Int) (hl : l.length ≤ 1048576) (hb : ∀ x ∈ l, 0 ≤ x ∧ x ≤ 255) : Ev (fun k => spec_l2Digest.f k l) (digest l) := by
  unfold spec_l2Digest.f
  exact spec_l2Digest_l0 l hl hb l.length 0 (11, 22, 33, 44) (by omega) ⟨by decide, by decide, by decide, by decide⟩
theorem impl_Digest_eq (l : List Int) (hl : l.length ≤ 20000) : impl_Digest.f l = some (digest l) := by
  unfold impl_Digest.f digest
  rw [if_neg (by omega)]
theorem wf_u8 {l : List Int} (h : ∀ x ∈ l, (Lit.int .u8 x).wf = true) : ∀ x ∈ l, 0 ≤ x ∧ x ≤ 255 := by
  intro x hx
  have z := h x hx
  simp [Lit.wf, IntKind.min, IntKind.max, IntKind.signed, IntKind.bits] at z
  omega
theorem cat_bytes {a b : List Int} (ha : ∀ x ∈ a, 0 ≤ x ∧ x ≤ 255) (hb : ∀ x ∈ b, 0 ≤ x ∧ x ≤ 255) : ∀ x ∈ a ++ b, 0 ≤ x ∧ x ≤ 255 := by
  intro x hx
  rcases List.mem_append.1 hx with h | h
  · exact ha x h
  · exact hb x h
/-! ### bits of whole numbers -/
theorem wraps_i64 (n : Int) (h₀ : 0 ≤ n) (h₁ : n < 2 ^ 63) : IntKind.i64.wrap n = n := by rw [IntKind.wrap_i64]; omega
theorem i64_mask (j : Nat) (hj : j ≤ 63) (x : Int) (h₀ : 0 ≤ x) (h₁ : x < 9223372036854775808) : Go.bits .and .i64 x (2 ^ j - 1) = x % 2 ^ j :=
  bits_mask .i64 63 (by decide) wraps_i64 j hj x h₀ (by omega)
theorem i64_and1 (x : Int) (h₀ : 0 ≤ x) (h₁ : x < 9223372036854775808) : Go.bits .and .i64 x 1 = x % 2 := i64_mask 1 (by decide) x h₀ h₁
theorem i64_join (j : Nat) (x y : Int) (hx₀ : 0 ≤ x) (hx : x % 2 ^ j = 0) (hx₁ : x < 9223372036854775808) (hy₀ : 0 ≤ y) (hy : y < 2 ^ j) (hy₁ : y < 9223372036854775808) : Go.bits .or .i64 x y = x + y :=
  bits_join .i64 63 (by decide) wraps_i64 j x y hx₀ hx (by omega) hy₀ hy (by omega)
theorem shr_nat (x : Int) (i : Nat) (h : i ≤ 64) : shr .i64 x (i : Int) = x / 2 ^ i := by
  unfold shr
  rw [Int.toNat_natCast, Nat.min_eq_left (by simpa [IntKind.bits] using h)]
theorem u64_nat (i : Nat) (h : i < 9000000000000000000) : IntKind.u64.wrap (i : Int) = (i : Int) := by
  simp [IntKind.wrap, IntKind.bits, IntKind.signed]; omega
/-! ### the number of a digest -/
def numV (l : List Int) : Int := rd l 0 + 256 * rd l 1 + 65536 * rd l 2 + 16777216 * rd l 3
theorem rd_byte {l : List Int} (hb : ∀ x ∈ l, 0 ≤ x ∧ x ≤ 255) (i : Nat) (h : i < l.length) : 0 ≤ rd l (i : Int) ∧ rd l (i : Int) ≤ 255 := by
  rw [rd_nat l i h]; exact hb _ (List.getElem_mem h)
theorem numV_bounds {l : List Int} (hb : ∀ x ∈ l, 0 ≤ x ∧ x ≤ 255) (h : 4 ≤ l.length) : 0 ≤ numV l ∧ numV l ≤ 4294967295 := by
  have h0 : 0 ≤ rd l 0 ∧ rd l 0 ≤ 255 := rd_byte hb 0 (by omega)
  have h1 : 0 ≤ rd l 1 ∧ rd l 1 ≤ 255 := rd_byte hb 1 (by omega)
  have h2 : 0 ≤ rd l 2 ∧ rd l 2 ≤ 255 := rd_byte hb 2 (by omega)
  have h3 : 0 ≤ rd l 3 ∧ rd l 3 ≤ 255 := rd_byte hb 3 (by omega)
  unfold numV
  omega
theorem bits_or_comm (k : IntKind) (x y : Int) : Go.bits .or k x y = Go.bits .or k y x := by
  simp only [Go.bits, BitVec.or_comm]
theorem impl_ynumber_eq {l : List Int} (hb : ∀ x ∈ l, 0 ≤ x ∧ x ≤ 255) (h : 4 ≤ l.length) : impl_ynumber.f l = some (numV l) := by
  have h0 : 0 ≤ rd l 0 ∧ rd l 0 ≤ 255 := rd_byte hb 0 (by omega)
  have h1 : 0 ≤ rd l 1 ∧ rd l 1 ≤ 255 := rd_byte hb 1 (by omega)
  have h2 : 0 ≤ rd l 2 ∧ rd l 2 ≤ 255 := rd_byte hb 2 (by omega)
  have h3 : 0 ≤ rd l 3 ∧ rd l 3 ≤ 255 := rd_byte hb 3 (by omega)
  unfold impl_ynumber.f numV
  rw [if_neg (by omega), if_pos (by omega), if_pos (by omega), if_pos (by omega), if_pos (by omega)]
  congr 1
  generalize rd l 0 = a at *
  generalize rd l 1 = b at *
  generalize rd l 2 = c at *
  generalize rd l 3 = d at *
  rw [wrap_id (x := a) (by omega) (by omega), wrap_id (x := b) (by omega) (by omega), wrap_id (x := b * 256) (by omega) (by omega), wrap_id (x := c) (by omega) (by omega), wrap_id (x := c * 65536) (by omega) (by omega), wrap_id (x := d) (by omega) (by omega), wrap_id (x := d * 16777216) (by omega) (by omega)]
  rw [bits_or_comm _ a, i64_join 8 (b * 256) a (by omega) (by omega) (by omega) (by omega) (by omega) (by omega)]
  rw [bits_or_comm _ (b * 256 + a), i64_join 16 (c * 65536) (b * 256 + a) (by omega) (by omega) (by omega) (by omega) (by omega) (by omega)]
  rw [bits_or_comm _ (c * 65536 + (b * 256 + a)), i64_join 24 (d * 16777216) (c * 65536 + (b * 256 + a)) (by omega) (by omega) (by omega) (by omega) (by omega) (by omega)]
  omega
theorem spec_l2Number_ev {l : List Int} (hb : ∀ x ∈ l, 0 ≤ x ∧ x ≤ 255) (h : 4 ≤ l.length) : Ev (fun k => spec_l2Number.f k l) (numV l) := by
  have h0 : 0 ≤ rd l 0 ∧ rd l 0 ≤ 255 := rd_byte hb 0 (by omega)
  have h1 : 0 ≤ rd l 1 ∧ rd l 1 ≤ 255 := rd_byte hb 1 (by omega)
  have h2 : 0 ≤ rd l 2 ∧ rd l 2 ≤ 255 := rd_byte hb 2 (by omega)
  have h3 : 0 ≤ rd l 3 ∧ rd l 3 ≤ 255 := rd_byte hb 3 (by omega)
  unfold spec_l2Number.f numV
  refine Ev.succ ?_
  simp only [spec_l2Number.l0]
  refine Ev.yes (by omega) (Ev.yes (by omega) (Ev.yes (by omega) ?_))
  rw [show wrap64 (3 - 1) = 2 from by kernel_rfl]
  refine Ev.succ ?_
  simp only [spec_l2Number.l0]
  refine Ev.yes (by omega) (Ev.yes (by omega) (Ev.yes (by omega) ?_))
  rw [show wrap64 (2 - 1) = 1 from by kernel_rfl]
  refine Ev.succ ?_
  simp only [spec_l2Number.l0]
  refine Ev.yes (by omega) (Ev.yes (by omega) (Ev.yes (by omega) ?_))
  rw [show wrap64 (1 - 1) = 0 from by kernel_rfl]
  refine Ev.succ ?_
  simp only [spec_l2Number.l0]
  refine Ev.yes (by omega) (Ev.yes (by omega) (Ev.yes (by omega) ?_))
  rw [show wrap64 (0 - 1) = -1 from by kernel_rfl]
  refine Ev.succ ?_
  simp only [spec_l2Number.l0]
  refine Ev.no (by omega) (Ev.some ?_)
  generalize rd l 0 = a at *
  generalize rd l 1 = b at *
  generalize rd l 2 = c at *
  generalize rd l 3 = d at *
  unfold wrap64
  omega
theorem digest_num (l : List Int) : 0 ≤ numV (digest l) ∧ numV (digest l) ≤ 4294967295 := numV_bounds (digest_bytes l) (by simp [digest_len])
theorem spec_num (l : List Int) : Ev (fun k => spec_l2Number.f k (digest l)) (numV (digest l)) := spec_l2Number_ev (digest_bytes l) (by simp [digest_len])
theorem impl_num (l : List Int) : impl_ynumber.f (digest l) = some (numV (digest l)) := impl_ynumber_eq (digest_bytes l) (by simp [digest_len])
/-! ### powers modulo a number -/
theorem emod_mul_emod (a b m : Int) : (a % m * (b % m)) % m = (a * b) % m := (Int.mul_emod a b m).symm
theorem emod_mul_left (a b m : Int) : (a % m * b) % m = (a * b) % m := by rw [Int.mul_emod, Int.emod_emod_of_dvd a (Int.dvd_refl m), ← Int.mul_emod]
theorem emod_mul_right (a b m : Int) : (a * (b % m)) % m = (a * b) % m := by rw [Int.mul_emod, Int.emod_emod_of_dvd b (Int.dvd_refl m), ← Int.mul_emod]
theorem emod_pow (a m : Int) (n : Nat) : ((a % m) ^ n) % m = (a ^ n) % m := by
  induction n with
  | zero => rw [Int.pow_zero, Int.pow_zero]
  | succ n ih => rw [Int.pow_succ, Int.pow_succ, ← emod_mul_left, ih, emod_mul_left, emod_mul_right]
theorem mul_bound {a b m : Int} (ha : 0 ≤ a) (ha' : a < m) (hb : 0 ≤ b) (hb' : b < m) (hm : m ≤ 3000000000) : 0 ≤ a * b ∧ a * b ≤ 9000000000000000000 := by
  refine ⟨Int.mul_nonneg ha hb, ?_⟩
  have h1 : a * b ≤ 3000000000 * b := Int.mul_le_mul_of_nonneg_right (by omega) hb
  omega
theorem tmul {a b m : Int} (ha : 0 ≤ a) (ha' : a < m) (hb : 0 ≤ b) (hb' : b < m) (hm : m ≤ 3000000000) : Int.tmod (wrap64 (a * b)) m = (a * b) % m := by
  have h := mul_bound ha ha' hb hb' hm
  rw [wrap_id (by omega) (by omega), Int.tmod_eq_emod_of_nonneg h.1]
theorem mod_bound (a : Int) {m : Int} (h : 0 < m) : 0 ≤ a % m ∧ a % m < m := ⟨Int.emod_nonneg _ (by omega), Int.emod_lt_of_pos _ h⟩
def powM (b e m : Int) : Int := (b ^ e.toNat) % m
theorem impl_ypow_l0 (m : Int) (h1 : 0 < m) (hm : m ≤ 3000000000) : ∀ (n : Nat) (e b r : Int), e.toNat ≤ n → 0 ≤ e → e < 9223372036854775808 → 0 ≤ b → b < m → 0 ≤ r → r < m →
    Ev (fun k => impl_ypow.l0 k b e m r) ((r * b ^ e.toNat) % m) := by
  intro n
  induction n with
  | zero =>
    intro e b r hn h0 he hb hb' hr hr'
    obtain rfl : e = 0 := by omega
    refine Ev.step (fun _ => rfl) (Ev.no (by omega) (Ev.some ?_))
    rw [Int.toNat_zero, Int.pow_zero, Int.mul_one, Int.emod_eq_of_lt hr hr']
  | succ n ih =>
    intro e b r hn h0 he hb hb' hr hr'
    by_cases hz : e = 0
    · obtain rfl := hz
      refine Ev.step (fun _ => rfl) (Ev.no (by omega) (Ev.some ?_))
      rw [Int.toNat_zero, Int.pow_zero, Int.mul_one, Int.emod_eq_of_lt hr hr']
    · have hbb := mod_bound (b * b) h1
      have hrb := mod_bound (r * b) h1
      have he2 : e.toNat = 2 * (e / 2).toNat + (e % 2).toNat := by omega
      have hsq : ((b * b) % m) ^ (e / 2).toNat % m = (b ^ (2 * (e / 2).toNat)) % m := by
        rw [emod_pow]; congr 1; rw [Int.pow_mul]; congr 1; rw [Int.pow_succ, Int.pow_succ, Int.pow_zero, Int.one_mul]
      refine Ev.step (fun _ => rfl) (Ev.yes (by omega) ?_)
      rw [i64_and1 e h0 he]
      refine Ev.ite (fun hodd => Ev.no (by omega) ?_) (fun hev => Ev.no (by omega) ?_)
      · rw [tmul hb hb' hb hb' hm, tmul hr hr' hb hb' hm]
        have h := ih (e / 2) ((b * b) % m) ((r * b) % m) (by omega) (by omega) (by omega) hbb.1 hbb.2 hrb.1 hrb.2
        have hx : ((r * b) % m * ((b * b) % m) ^ (e / 2).toNat) % m = (r * b ^ e.toNat) % m := by
          rw [emod_mul_left, ← emod_mul_right, hsq, emod_mul_right, he2, hodd, Int.pow_add, Int.mul_assoc]
          congr 2
          show b * _ = _ * b ^ 1
          rw [Int.pow_succ, Int.pow_zero, Int.one_mul, Int.mul_comm]
        rw [hx] at h
        exact h
      · rw [tmul hb hb' hb hb' hm]
        have h := ih (e / 2) ((b * b) % m) r (by omega) (by omega) (by omega) hbb.1 hbb.2 hr hr'
        have hx : (r * ((b * b) % m) ^ (e / 2).toNat) % m = (r * b ^ e.toNat) % m := by
          rw [← emod_mul_right, hsq, emod_mul_right, he2, show (e % 2).toNat = 0 from by omega, Nat.add_zero]
        rw [hx] at h
        exact h
theorem impl_ypow_ev (b e m : Int) (h1 : 1 < m) (hm : m ≤ 3000000000) (hb : 0 ≤ b) (h0 : 0 ≤ e) (he : e < 9223372036854775808) : Ev (fun k => impl_ypow.f k b e m) (powM b e m) := by
  unfold impl_ypow.f powM
  refine Ev.no (by omega) ?_
  rw [Int.tmod_eq_emod_of_nonneg hb]
  have hbb := mod_bound b (show 0 < m by omega)
  have h := impl_ypow_l0 m (by omega) hm e.toNat e (b % m) 1 (Nat.le_refl _) h0 he hbb.1 hbb.2 (by omega) (by omega)
  rw [Int.one_mul, emod_pow] at h
  exact h
theorem spec_l2Power_l0 (a e m : Int) (h1 : 0 < m) (hm : m ≤ 3000000000) (ha : 0 ≤ a) (ha' : a < 3000000000) (h0 : 0 ≤ e) (he : e < 9223372036854775808) : ∀ (n : Nat), n ≤ 41 →
    Ev (fun k => spec_l2Power.l0 k a e m ((a ^ (e / 2 ^ n).toNat) % m) ((n : Int) - 1)) ((a ^ e.toNat) % m) := by
  intro n
  induction n with
  | zero =>
    intro _
    refine Ev.step (fun _ => rfl) (Ev.no (by omega) (Ev.some ?_))
    rw [Int.pow_zero, Int.ediv_one]
  | succ n ih =>
    intro hn
    have h := ih (by omega)
    have hi : ((n + 1 : Nat) : Int) - 1 = (n : Int) := by omega
    rw [hi]
    refine Ev.step (fun _ => rfl) (Ev.yes (by omega) (Ev.no (by omega) ?_))
    rw [u64_nat n (by omega), shr_nat e n (by omega)]
    have hp : (0 : Int) < 2 ^ n := Int.pow_pos (by decide)
    have q0 : 0 ≤ e / 2 ^ n := Int.ediv_nonneg h0 (by omega)
    have q1 : e / 2 ^ n ≤ e := Int.ediv_le_self _ h0
    have hd : e / 2 ^ (n + 1) = e / 2 ^ n / 2 := by rw [Int.pow_succ, Int.ediv_ediv_of_nonneg (by omega)]
    generalize e / 2 ^ n = q at *
    rw [hd, i64_and1 _ q0 (by omega)]
    have hb := mod_bound (a ^ (q / 2).toNat) h1
    have hq : q.toNat = (q / 2).toNat + (q / 2).toNat + (q % 2).toNat := by omega
    have hsq : ((a ^ (q / 2).toNat) % m * ((a ^ (q / 2).toNat) % m)) % m = (a ^ ((q / 2).toNat + (q / 2).toNat)) % m := by rw [emod_mul_emod, Int.pow_add]
    have hw : wrap64 ((n : Int) - 1) = (n : Int) - 1 := wrap_id (by omega) (by omega)
    rw [hw]
    refine Ev.yes (by omega) ?_
    rw [tmul hb.1 hb.2 hb.1 hb.2 hm, hsq]
    refine Ev.ite (fun hodd => ?_) (fun hev => ?_)
    · have hb2 := mod_bound (a ^ ((q / 2).toNat + (q / 2).toNat)) h1
      have hx : Int.tmod (wrap64 ((a ^ ((q / 2).toNat + (q / 2).toNat)) % m * a)) m = (a ^ q.toNat) % m := by
        have h3 : 0 ≤ (a ^ ((q / 2).toNat + (q / 2).toNat)) % m * a := Int.mul_nonneg hb2.1 ha
        have h4 : (a ^ ((q / 2).toNat + (q / 2).toNat)) % m * a ≤ 3000000000 * a := Int.mul_le_mul_of_nonneg_right (by omega) ha
        rw [wrap_id (by omega) (by omega), Int.tmod_eq_emod_of_nonneg h3, emod_mul_left, hq, hodd, Int.pow_add _ (_ + _)]
        congr 2
        show a = a ^ 1
        rw [Int.pow_succ, Int.pow_zero, Int.one_mul]
      rw [hx]
      exact h
    · rw [show (q / 2).toNat + (q / 2).toNat = q.toNat from by omega]
      exact h
theorem spec_l2Power_ev (a e m : Int) (h1 : 1 < m) (hm : m ≤ 3000000000) (ha : 0 ≤ a) (ha' : a < 3000000000) (h0 : 0 ≤ e) (he : e < 2199023255552) : Ev (fun k => spec_l2Power.f k a e m) (powM a e m) := by
  unfold spec_l2Power.f powM
  have h := spec_l2Power_l0 a e m (by omega) hm ha ha' h0 (by omega) 41 (Nat.le_refl _)
  have hz : e / 2 ^ 41 = 0 := Int.ediv_eq_zero_of_lt h0 (by omega)
  rw [hz, Int.toNat_zero, Int.pow_zero, Int.emod_eq_of_lt (by omega) h1] at h
  exact h
/-! ### what a signature's first part and the data come to -/
def chalV (r : Int) (l : List Int) : Int := numV (digest (ybytesV r ++ digest l)) % 1073741789
theorem chalV_bounds (r : Int) (l : List Int) : 0 ≤ chalV r l ∧ chalV r l < 1073741789 := by unfold chalV; omega
theorem impl_ychallenge_eq (r : Int) (l : List Int) (hl : l.length ≤ 20000) : impl_ychallenge.f r l = some (chalV r l) := by
  unfold impl_ychallenge.f
  rw [show impl_ybytes.f r = some (ybytesV r) from rfl]
  simp only [Option.bind_some]
  rw [impl_Digest_eq l hl]
  simp only [Option.bind_some]
  rw [if_pos (by simp [digest_len, ybytesV]), impl_Digest_eq _ (by simp [digest_len, ybytesV])]
  simp only [Option.bind_some]
  rw [impl_num]
  simp only [Option.bind_some]
  have := digest_num (ybytesV r ++ digest l)
  rw [Int.tmod_eq_emod_of_nonneg this.1]
  rfl
theorem spec_l2E_ev (r : Int) (h0 : 0 ≤ r) (h1 : r < 9223372036854775807) (l : List Int) (hl : l.length ≤ 1048576) (hb : ∀ x ∈ l, 0 ≤ x ∧ x ≤ 255) : Ev (fun k => spec_l2E.f k r l) (chalV r l) := by
  unfold spec_l2E.f
  refine (spec_l2Bytes_ev r h0 h1).bind (Ev.yes (by simp [ybytesV]) ?_)
  simp only [Option.bind_some, List.nil_append]
  refine (spec_l2Digest_ev l hl hb).bind (Ev.yes (by simp [ybytesV, digest_len]) ?_)
  refine (spec_l2Digest_ev _ (by simp [ybytesV, digest_len]) (cat_bytes (ybytes_bytes _) (digest_bytes _))).bind ((spec_num _).bind (Ev.some ?_))
  have := digest_num (ybytesV r ++ digest l)
  rw [Int.tmod_eq_emod_of_nonneg this.1]
  rfl
def okV (p : Int) (l : List Int) (r z : Int) : Prop := (2 ≤ p ∧ p < 2147483579) ∧ powM p 1073741789 2147483579 = 1 ∧ l.length ≤ 20000 ∧ (1 ≤ r ∧ r < 2147483579) ∧ (0 ≤ z ∧ z < 1073741789)
instance (p : Int) (l : List Int) (r z : Int) : Decidable (okV p l r z) := by unfold okV; exact inferInstance
def verV (p : Int) (l : List Int) (r z : Int) : Bool := decide (okV p l r z) && (powM 4 z 2147483579 == (r * powM p (chalV r l) 2147483579) % 2147483579)
theorem last_eq {p : Int} {l : List Int} {r z : Int} (h : okV p l r z) : (powM 4 z 2147483579 == Int.tmod (wrap64 (r * powM p (chalV r l) 2147483579)) 2147483579) = verV p l r z := by
  have hp := mod_bound (p ^ (chalV r l).toNat) (m := 2147483579) (by omega)
  obtain ⟨_, _, _, hr, _⟩ := id h
  rw [show powM p (chalV r l) 2147483579 = p ^ (chalV r l).toNat % 2147483579 from rfl, tmul (by omega) hr.2 hp.1 hp.2 (by omega)]
  unfold verV
  rw [decide_eq_true h, Bool.true_and]; rfl
theorem spec_Verify_ev (p : Int) (l : List Int) (r z : Int) (hl : l.length ≤ 1048576) (hb : ∀ x ∈ l, 0 ≤ x ∧ x ≤ 255) : Ev (fun k => spec_Verify.f k p l r z) (verV p l r z) := by
  have J : ∀ b : Bool, (b = true ↔ ¬ okV p l r z) → Ev (fun k => spec_Verify.j0 k p l b r z) (verV p l r z) := by
    intro b hbb
    refine Ev.succ ?_
    simp only [spec_Verify.j0]
    refine Ev.ite (fun h => Ev.some ?_) fun h => ?_
    · unfold verV; rw [decide_eq_false (hbb.1 h)]; rfl
    · have ok : okV p l r z := Classical.byContradiction fun z => h (hbb.2 z)
      have e := last_eq ok
      obtain ⟨h1, h2, h3, h4, h5⟩ := ok
      have hc := chalV_bounds r l
      exact (spec_l2Power_ev 4 z 2147483579 (by omega) (by omega) (by omega) (by omega) (by omega) (by omega)).bind ((spec_l2E_ev r (by omega) (by omega) l hl hb).bind ((spec_l2Power_ev p (chalV r l) 2147483579 (by omega) (by omega) (by omega) (by omega) (by omega) (by omega)).bind (Ev.some e)))
  have P : Ev (fun k => spec_l2Public.f k p) (decide ((2 ≤ p ∧ p < 2147483579) ∧ powM p 1073741789 2147483579 = 1)) := by
    unfold spec_l2Public.f
    refine Ev.ite (fun h => Ev.ite (fun h' => ?_) fun h' => Ev.some ?_) fun h => Ev.some ?_
    · refine (spec_l2Power_ev p 1073741789 2147483579 (by omega) (by omega) (by omega) (by omega) (by omega) (by omega)).bind (Ev.some ?_)
      rw [Bool.eq_iff_iff, beq_iff_eq, decide_eq_true_eq]
      exact ⟨fun e => ⟨⟨h, h'⟩, e⟩, fun e => e.2⟩
    · rw [eq_comm, decide_eq_false_iff_not]; omega
    · rw [eq_comm, decide_eq_false_iff_not]; omega
  unfold spec_Verify.f
  have N : ∀ {q : Prop}, q → ¬ q → False := fun a b => b a
  refine P.bind (Ev.ite (fun h => ?_) fun h => J true ⟨fun _ ok => h (decide_eq_true ⟨ok.1, ok.2.1⟩), fun _ => rfl⟩)
  have h := of_decide_eq_true h
  refine Ev.ite (fun a => J true ⟨fun _ ok => by have := ok.2.2.1; omega, fun _ => rfl⟩) fun a => ?_
  refine Ev.ite (fun b => J true ⟨fun _ ok => by have := ok.2.2.2.1; omega, fun _ => rfl⟩) fun b => ?_
  refine Ev.ite (fun c => J true ⟨fun _ ok => by have := ok.2.2.2.1; omega, fun _ => rfl⟩) fun c => ?_
  refine Ev.ite (fun d => J true ⟨fun _ ok => by have := ok.2.2.2.2; omega, fun _ => rfl⟩) fun d => J _ ?_
  rw [decide_eq_true_eq]
  exact ⟨fun e ok => by have := ok.2.2.2.2; omega, fun e => Classical.byContradiction fun f => e ⟨h.1, h.2, by omega, by omega, by omega⟩⟩
theorem impl_Verify_ev (p : Int) (l : List Int) (r z : Int) : Ev (fun k => impl_Verify.f k p l r z) (verV p l r z) := by
  have J : ∀ b : Bool, (b = true ↔ ¬ okV p l r z) → Ev (fun k => impl_Verify.j0 k p l b r z) (verV p l r z) := by
    intro b hbb
    refine Ev.succ ?_
    simp only [impl_Verify.j0]
    refine Ev.ite (fun h => Ev.some ?_) fun h => ?_
    · unfold verV; rw [decide_eq_false (hbb.1 h)]; rfl
    · have ok : okV p l r z := Classical.byContradiction fun z => h (hbb.2 z)
      have e := last_eq ok
      obtain ⟨h1, h2, h3, h4, h5⟩ := ok
      have hc := chalV_bounds r l
      exact (impl_ypow_ev 4 z 2147483579 (by omega) (by omega) (by omega) (by omega) (by omega)).bind (Ev.call (impl_ychallenge_eq r l h3) ((impl_ypow_ev p (chalV r l) 2147483579 (by omega) (by omega) (by omega) (by omega) (by omega)).bind (Ev.some e)))
  unfold impl_Verify.f
  refine Ev.ite (fun a => J true ⟨fun _ ok => by have := ok.2.2.1; omega, fun _ => rfl⟩) fun a => ?_
  refine Ev.ite (fun a1 => J true ⟨fun _ ok => by have := ok.1; omega, fun _ => rfl⟩) fun a1 => ?_
  refine Ev.ite (fun a2 => J true ⟨fun _ ok => by have := ok.1; omega, fun _ => rfl⟩) fun a2 => ?_
  refine (impl_ypow_ev p 1073741789 2147483579 (by omega) (by omega) (by omega) (by omega) (by omega)).bind ?_
  refine Ev.ite (fun h => ?_) fun h => J true ⟨fun _ ok => h ok.2.1, fun _ => rfl⟩
  refine Ev.ite (fun b => J true ⟨fun _ ok => by have := ok.2.2.2.1; omega, fun _ => rfl⟩) fun b => ?_
  refine Ev.ite (fun c => J true ⟨fun _ ok => by have := ok.2.2.2.1; omega, fun _ => rfl⟩) fun c => ?_
  refine Ev.ite (fun d => J true ⟨fun _ ok => by have := ok.2.2.2.2; omega, fun _ => rfl⟩) fun d => J _ ?_
  rw [decide_eq_true_eq]
  exact ⟨fun e ok => by have := ok.2.2.2.2; omega, fun e => Classical.byContradiction fun f => e ⟨by omega, h, by omega, by omega, by omega⟩⟩
theorem FnExactVerify : laws_FnExactVerify.Pure := by
  intro p l s _ hw _
  have hb := wf_u8 hw.2.2
  apply Ev.rounds
  unfold laws_FnExactVerify.f
  refine Ev.ite (fun _ => Ev.now _) fun hl => ?_
  have hl : l.length ≤ 1048576 := by omega
  have T := toByteS_ev l hl
  simp only [laws_toSig.f, Option.bind_some]
  exact T.bind ((spec_Verify_ev p l _ _ hl hb).bind (T.bind ((impl_Verify_ev p l _ _).bind (Ev.no (by simp) (T.bind ((eqByteS_self l hl).bind (Ev.yes rfl (Ev.now _))))))))

end Go.Proofs.Ytmnlgdmojbhfcaa.Pure
