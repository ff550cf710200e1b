/- The program's Split answers what the reference's answers, for all secrets, numbers and keys; it hands back memory of its own.
Conditions: none but the row's own. -/
import Derived.Test.YtmnlgdmojbhfcabPFnExactSplitx5
namespace Go.Proofs.Ytmnlgdmojbhfcab.Pure
open Go.RowKit Go.Proofs.Ytmnlgdmojbhfcab.PFnExactSplit Go.Proofs.YtmnlgdmojbhfcabW.PrintWords Go.Proofs.YtmnlgdmojbhfcabW.PrintLast
set_option linter.unusedVariables false
set_option linter.unusedSimpArgs false

/-! ### from some number of rounds on -/
theorem Ev.yes {α : Type} {c : Prop} {inst : Decidable c} {A B : Nat → Option α} {r : α} (h : c) (k : Ev A r) : Ev (fun n => @ite _ c inst (A n) (B n)) r :=
  k.congr fun n => if_pos h
theorem Ev.no {α : Type} {c : Prop} {inst : Decidable c} {A B : Nat → Option α} {r : α} (h : ¬ c) (k : Ev B r) : Ev (fun n => @ite _ c inst (A n) (B n)) r :=
  k.congr fun n => if_neg h
theorem Ev.ite {α : Type} {c : Prop} {inst : Decidable c} {A B : Nat → Option α} {r : α} (h : c → Ev A r) (k : ¬ c → Ev B r) : Ev (fun n => @ite _ c inst (A n) (B n)) r := by
  by_cases e : c
  · exact Ev.yes e (h e)
  · exact Ev.no e (k e)
theorem Ev.some {α : Type} {a r : α} (h : a = r) : Ev (fun _ => some a) r := h ▸ Ev.now a
/-- A callee without rounds. -/
theorem Ev.call {α β : Type} {g : Option α} {f : Nat → α → Option β} {a : α} {r : β} (h : g = Option.some a) (k : Ev (fun n => f n a) r) : Ev (fun n => g.bind (f n)) r := by
  refine k.congr fun n => ?_
  rw [h]; rfl
theorem Ev.tail {α : Type} {g : Nat → Option α} {r : α} (h : Ev g r) : Ev (fun n => (g n).bind fun t => Option.some t) r := h.bind (Ev.now r)
theorem Ev.succ {α : Type} {g : Nat → Option α} {r : α} (h : Ev (fun k => g (k + 1)) r) : Ev g r := Ev.step (fun _ => rfl) h
theorem wrap_nat {i : Nat} (h : i < 9000000000000000000) : wrap64 ((i : Int) + 1) = ((i + 1 : Nat) : Int) := by unfold wrap64; omega
theorem wrap_id {x : Int} (h0 : -9223372036854775808 ≤ x) (h1 : x ≤ 9223372036854775807) : wrap64 x = x := by unfold wrap64; omega
theorem bt_nat (s : ByteArray) (i : Nat) (h : i < s.size) : bt s (i : Int) = (bytesOf s)[i]'(by rw [bytesOf_length]; exact h) := by
  have := rd_bytesOf s (i : Int)
  rw [← this]; unfold rd; rw [Int.toNat_natCast, List.getD_eq_getElem?_getD, List.getElem?_eq_getElem (by rw [bytesOf_length]; exact h)]; rfl
theorem drop_bytes (s : ByteArray) (i : Nat) (h : i < s.size) : (bytesOf s).drop i = bt s (i : Int) :: (bytesOf s).drop (i + 1) := by
  rw [bt_nat s i h]; exact List.drop_eq_getElem_cons (by rw [bytesOf_length]; exact h)
theorem bytes_range (s : ByteArray) : ∀ b ∈ bytesOf s, 0 ≤ b ∧ b ≤ 255 := by
  intro b hb
  unfold bytesOf at hb
  obtain ⟨x, _, rfl⟩ := List.mem_map.1 hb
  have := x.toNat_lt
  omega
/-- A loop over a string that asks each byte. -/
theorem loop_all {l : Nat → Int → Option Bool} {p : Int → Bool} {s : ByteArray}
    (yes : ∀ i : Nat, i < s.size → p (bt s i) = true → ∀ r, Ev (fun k => l k ((i + 1 : Nat) : Int)) r → Ev (fun k => l k (i : Int)) r)
    (no : ∀ i : Nat, i < s.size → p (bt s i) = false → Ev (fun k => l k (i : Int)) false)
    (done : Ev (fun k => l k (s.size : Int)) true) :
    ∀ (d i : Nat), s.size = i + d → Ev (fun k => l k (i : Int)) (((bytesOf s).drop i).all p) := by
  intro d
  induction d with
  | zero =>
    intro i h
    obtain rfl : i = s.size := by omega
    rw [List.drop_eq_nil_of_le (by rw [bytesOf_length]; exact Nat.le_refl _)]
    exact done
  | succ d ih =>
    intro i h
    rw [drop_bytes s i (by omega), List.all_cons]
    cases hp : p (bt s i) with
    | true => rw [Bool.true_and]; exact yes i (by omega) hp _ (ih (i + 1) (by omega))
    | false => rw [Bool.false_and]; exact no i (by omega) hp
/-! ### lists of numbers, and what the law's own functions do with bytes -/
theorem rd_nat (l : List Int) (i : Nat) (h : i < l.length) : rd l (i : Int) = l[i] := by
  unfold rd; rw [Int.toNat_natCast, List.getD_eq_getElem?_getD, List.getElem?_eq_getElem h]; rfl
theorem set_step {β : Type} (xs : List β) (z : β) (i : Nat) (h : i < xs.length) :
    (xs.take i ++ List.replicate (xs.length - i) z).set i xs[i] = xs.take (i + 1) ++ List.replicate (xs.length - (i + 1)) z := by
  obtain ⟨d, hd⟩ : ∃ d, xs.length - i = d + 1 := ⟨xs.length - i - 1, by omega⟩
  rw [hd, show xs.length - (i + 1) = d by omega, List.replicate_succ, List.set_append_right _ _ (by simp; omega)]
  rw [show i - (xs.take i).length = 0 by simp; omega, List.set_cons_zero, List.take_succ_eq_append_getElem h, List.append_assoc]; rfl
theorem fill_len {β : Type} (xs : List β) (z : β) (i : Nat) (h : i ≤ xs.length) : (xs.take i ++ List.replicate (xs.length - i) z).length = xs.length := by simp; omega
theorem toByteS_l0 (l : List Int) (hl : l.length ≤ 1048576) : ∀ (d i : Nat), l.length = i + d → Ev (fun k => laws_toByteS.l0 k l (l.take i ++ List.replicate (l.length - i) 0) (i : Int)) l := by
  intro d
  induction d with
  | zero =>
    intro i h
    refine Ev.succ ?_
    simp only [laws_toByteS.l0]
    refine Ev.no (by omega) (Ev.some ?_)
    rw [show l.length - i = 0 by omega, List.replicate_zero, List.append_nil, List.take_of_length_le (by omega)]
  | succ d ih =>
    intro i h
    refine Ev.succ ?_
    simp only [laws_toByteS.l0]
    refine Ev.yes (by omega) (Ev.yes (by omega) (Ev.yes (by rw [fill_len _ _ _ (by omega)]; omega) ?_))
    have z := ih (i + 1) (by omega)
    rw [wrap_nat (by omega), Int.toNat_natCast, rd_nat l i (by omega), set_step l 0 i (by omega)]
    exact z
theorem toByteS_ev (l : List Int) (hl : l.length ≤ 1048576) : Ev (fun k => laws_toByteS.f k l) l := by
  unfold laws_toByteS.f
  refine Ev.yes (by omega) (Ev.yes (by omega) ?_)
  exact toByteS_l0 l hl l.length 0 (by omega)
theorem eqByteS_l0 (a b : List Int) (hl : a.length ≤ 1048576) (hab : a.length = b.length) : ∀ (d i : Nat), a.length = i + d → Ev (fun k => laws_eqByteS.l0 k a b (i : Int)) (decide (a.drop i = b.drop i)) := by
  intro d
  induction d with
  | zero =>
    intro i h
    refine Ev.succ ?_
    simp only [laws_eqByteS.l0]
    refine Ev.no (by omega) (Ev.some ?_)
    rw [List.drop_eq_nil_of_le (by omega), List.drop_eq_nil_of_le (by omega)]; rfl
  | succ d ih =>
    intro i h
    refine Ev.succ ?_
    simp only [laws_eqByteS.l0]
    refine Ev.yes (by omega) (Ev.yes (by omega) (Ev.yes (by omega) ?_))
    have z := ih (i + 1) (by omega)
    rw [rd_nat a i (by omega), rd_nat b i (by omega), wrap_nat (by omega)]
    rw [List.drop_eq_getElem_cons (show i < a.length by omega), List.drop_eq_getElem_cons (show i < b.length by omega)]
    refine Ev.ite (fun e => ?_) (fun e => Ev.some ?_)
    · have : decide (a[i] :: a.drop (i + 1) = b[i] :: b.drop (i + 1)) = decide (a.drop (i + 1) = b.drop (i + 1)) := by
        rw [decide_eq_decide]
        exact ⟨fun h => (List.cons.inj h).2, fun h => by rw [e, h]⟩
      rw [this]; exact z
    · rw [eq_comm, decide_eq_false_iff_not]; exact fun h => e (List.cons.inj h).1
theorem eqByteS_ev (a b : List Int) (hl : a.length ≤ 1048576) : Ev (fun k => laws_eqByteS.f k a b) (decide (a = b)) := by
  unfold laws_eqByteS.f
  refine Ev.ite (fun h => ?_) (fun h => Ev.some ?_)
  · exact eqByteS_l0 a b hl (by omega) a.length 0 (by omega)
  · rw [eq_comm, decide_eq_false_iff_not]; intro e; exact h (by rw [e])
theorem eqByteS_self (a : List Int) (hl : a.length ≤ 1048576) : Ev (fun k => laws_eqByteS.f k a a) true := by
  have h := eqByteS_ev a a hl; rwa [decide_eq_true rfl] at h
def marks (m n : Nat) : List Int := (List.range n).map fun i => ((m + i : Nat) : Int) % 256
theorem marks_len (m n : Nat) : (marks m n).length = n := by simp [marks]
theorem marks_get (m n i : Nat) (h : i < n) : (marks m n)[i]'(by rw [marks_len]; exact h) = ((m + i : Nat) : Int) % 256 := by simp [marks]
theorem markByteS_l0 (l : List Int) (m : Nat) (hm : m ≤ 9000000) (hl : l.length ≤ 1048576) : ∀ (d i : Nat), l.length = i + d →
    Ev (fun k => laws_markByteS.l0 k ((marks m l.length).take i ++ l.drop i) ((m + i : Nat) : Int) (i : Int)) (((m + l.length : Nat) : Int), marks m l.length) := by
  intro d
  induction d with
  | zero =>
    intro i h
    refine Ev.succ ?_
    simp only [laws_markByteS.l0]
    refine Ev.no (by simp [marks_len]; omega) (Ev.some ?_)
    obtain rfl : i = l.length := by omega
    rw [List.drop_length, List.append_nil, List.take_of_length_le (by rw [marks_len]; exact Nat.le_refl _)]
  | succ d ih =>
    intro i h
    refine Ev.succ ?_
    simp only [laws_markByteS.l0]
    refine Ev.yes (by simp [marks_len]; omega) (Ev.yes (by omega) ?_)
    have z := ih (i + 1) (by omega)
    have e1 : ((marks m l.length).take i ++ l.drop i).set i (((m + i : Nat) : Int) % 256) = (marks m l.length).take (i + 1) ++ l.drop (i + 1) := by
      rw [List.set_append_right _ _ (by simp [marks_len]; omega), show i - ((marks m l.length).take i).length = 0 by simp [marks_len]; omega]
      rw [List.drop_eq_getElem_cons (show i < l.length by omega), List.set_cons_zero, List.take_succ_eq_append_getElem (by rw [marks_len]; omega), marks_get _ _ _ (by omega), List.append_assoc]; rfl
    rw [Int.toNat_natCast, e1, wrap_nat (show m + i < 9000000000000000000 by omega), wrap_nat (show i < 9000000000000000000 by omega)]
    exact z
theorem markByteS_ev (l : List Int) (m : Nat) (hm : m ≤ 9000000) (hl : l.length ≤ 1048576) : Ev (fun k => laws_markByteS.f k l (m : Int)) (((m + l.length : Nat) : Int), marks m l.length) := by
  unfold laws_markByteS.f
  exact markByteS_l0 l m hm hl l.length 0 (by omega)
/-! ### the digest -/
def lst4 (s : M4) : List Int := [s.1, s.2.1, s.2.2.1, s.2.2.2]
def Fit4 (s : M4) : Prop := (0 ≤ s.1 ∧ s.1 < 2147483579) ∧ (0 ≤ s.2.1 ∧ s.2.1 < 2147483579) ∧ (0 ≤ s.2.2.1 ∧ s.2.2.1 < 2147483579) ∧ (0 ≤ s.2.2.2 ∧ s.2.2.2 < 2147483579)
theorem mixV_fit {a m x b : Int} (ha : 0 ≤ a ∧ a < 2147483579) (hm : 0 ≤ m ∧ m < 2147483579) (hx : 0 ≤ x ∧ x ≤ 255) (hb : 0 ≤ b ∧ b < 2147483579) : 0 ≤ mixV a m x b ∧ mixV a m x b < 2147483579 := by
  unfold mixV
  have h1 : 0 ≤ a * m := Int.mul_nonneg ha.1 hm.1
  have h2 : a * m ≤ 2147483579 * m := Int.mul_le_mul_of_nonneg_right (by omega) hm.1
  have h3 : 2147483579 * m ≤ 2147483579 * 2147483579 := Int.mul_le_mul_of_nonneg_left (by omega) (by omega)
  generalize a * m = p at *
  have e : wrap64 (wrap64 (wrap64 (wrap64 p + wrap64 x) + 1) + b) = p + x + 1 + b := by unfold wrap64; omega
  rw [e, Int.tmod_eq_emod_of_nonneg (by omega)]
  omega
theorem eatV_fit {s : M4} {x : Int} (h : Fit4 s) (hx : 0 ≤ x ∧ x ≤ 255) : Fit4 (eatV s x) := by
  obtain ⟨h1, h2, h3, h4⟩ := h
  have k1 := mixV_fit h1 (m := 1103515245) (by omega) hx h2
  exact ⟨k1, mixV_fit h2 (by omega) hx h3, mixV_fit h3 (by omega) hx h4, mixV_fit h4 (by omega) hx k1⟩
theorem fold_fit (l : List Int) : ∀ (s : M4), Fit4 s → (∀ x ∈ l, 0 ≤ x ∧ x ≤ 255) → Fit4 (l.foldl eatV s) := by
  induction l with
  | nil => intro s h _; exact h
  | cons x l ih => intro s h hx; exact ih _ (eatV_fit h (hx x (by simp))) (fun y hy => hx y (by simp [hy]))
theorem ybytes_bytes (n : Int) : ∀ x ∈ ybytesV n, 0 ≤ x ∧ x ≤ 255 := by
  intro x hx
  simp only [ybytesV, List.mem_cons, List.not_mem_nil, or_false] at hx
  rcases hx with rfl | rfl | rfl | rfl <;> omega
theorem zeros_bytes (n : Nat) : ∀ x ∈ List.replicate n (0 : Int), 0 ≤ x ∧ x ≤ 255 := by
  intro x hx
  obtain rfl := (List.mem_replicate.1 hx).2
  omega
theorem dig_fit (l : List Int) (h : ∀ x ∈ l, 0 ≤ x ∧ x ≤ 255) : Fit4 (digV l) :=
  fold_fit _ _ (fold_fit _ _ (fold_fit _ _ ⟨by decide, by decide, by decide, by decide⟩ h) (ybytes_bytes _)) (zeros_bytes _)
theorem outV_len (s : M4) : (outV s).length = 16 := rfl
theorem outV_bytes (s : M4) : ∀ x ∈ outV s, 0 ≤ x ∧ x ≤ 255 := by
  intro x hx
  unfold outV at hx
  simp only [List.mem_append] at hx
  rcases hx with ((h | h) | h) | h <;> exact ybytes_bytes _ x h
theorem spec_l2Mix_ev (s : M4) (x : Int) : Ev (fun k => spec_l2Mix.f k (lst4 s) (wrap64 x)) (lst4 (eatV s x)) := by
  refine Ev.of (spec_l2Mix.mono _ _) (k := 5) ?_
  obtain ⟨a, b, c, d⟩ := s
  kernel_rfl
theorem spec_l2Bytes_ev (n : Int) (h0 : 0 ≤ n) (h1 : n < 9223372036854775807) : Ev (fun k => spec_l2Bytes.f k n) (ybytesV n) := by
  refine Ev.of (spec_l2Bytes.mono _) (k := 5) ?_
  have t1 : Int.tdiv n 256 = n / 256 := Int.tdiv_eq_ediv_of_nonneg h0
  have t2 : Int.tdiv (n / 256) 256 = n / 65536 := by rw [Int.tdiv_eq_ediv_of_nonneg (by omega)]; omega
  have t3 : Int.tdiv (n / 65536) 256 = n / 16777216 := by rw [Int.tdiv_eq_ediv_of_nonneg (by omega)]; omega
  have m0 : Int.tmod n 256 % 256 = n % 256 := by rw [Int.tmod_eq_emod_of_nonneg h0]; omega
  have m1 : Int.tmod (n / 256) 256 % 256 = n / 256 % 256 := by rw [Int.tmod_eq_emod_of_nonneg (by omega)]; omega
  have m2 : Int.tmod (n / 65536) 256 % 256 = n / 65536 % 256 := by rw [Int.tmod_eq_emod_of_nonneg (by omega)]; omega
  have m3 : Int.tmod (n / 16777216) 256 % 256 = n / 16777216 % 256 := by rw [Int.tmod_eq_emod_of_nonneg (by omega)]; omega
  have w1 : wrap64 (n / 256) = n / 256 := wrap_id (by omega) (by omega)
  have w2 : wrap64 (n / 65536) = n / 65536 := wrap_id (by omega) (by omega)
  have w3 : wrap64 (n / 16777216) = n / 16777216 := wrap_id (by omega) (by omega)
  have e : spec_l2Bytes.f 5 n = some [Int.tmod n 256 % 256, Int.tmod (wrap64 (Int.tdiv n 256)) 256 % 256, Int.tmod (wrap64 (Int.tdiv (wrap64 (Int.tdiv n 256)) 256)) 256 % 256, Int.tmod (wrap64 (Int.tdiv (wrap64 (Int.tdiv (wrap64 (Int.tdiv n 256)) 256)) 256)) 256 % 256] := by kernel_rfl
  rw [e, t1, w1, t2, w2, t3, w3, m0, m1, m2, m3]
  rfl
theorem rd_lst4 (s : M4) : rd (lst4 s) 0 = s.1 ∧ rd (lst4 s) 1 = s.2.1 ∧ rd (lst4 s) 2 = s.2.2.1 ∧ rd (lst4 s) 3 = s.2.2.2 := ⟨rfl, rfl, rfl, rfl⟩
theorem spec_l2Digest_l3 (s : M4) (h : Fit4 s) : Ev (fun k => spec_l2Digest.l3 k [] (lst4 s) ((lst4 s).length : Int) 0) (outV s) := by
  have len : ((lst4 s).length : Int) = 4 := rfl
  obtain ⟨r0, r1, r2, r3⟩ := rd_lst4 s
  obtain ⟨h1, h2, h3, h4⟩ := h
  rw [len]
  refine Ev.succ ?_
  simp only [spec_l2Digest.l3]
  refine Ev.yes (by omega) (Ev.yes (by omega) (Ev.yes (by rw [len]; omega) ?_))
  rw [r0]
  refine Ev.bind (spec_l2Bytes_ev s.1 (by omega) (by omega)) (Ev.yes (by simp [ybytesV]) ?_)
  rw [show wrap64 (0 + 1) = 1 from by kernel_rfl]
  refine Ev.succ ?_
  simp only [spec_l2Digest.l3]
  refine Ev.yes (by omega) (Ev.yes (by omega) (Ev.yes (by rw [len]; omega) ?_))
  rw [r1]
  refine Ev.bind (spec_l2Bytes_ev s.2.1 (by omega) (by omega)) (Ev.yes (by simp [ybytesV]) ?_)
  rw [show wrap64 (1 + 1) = 2 from by kernel_rfl]
  refine Ev.succ ?_
  simp only [spec_l2Digest.l3]
  refine Ev.yes (by omega) (Ev.yes (by omega) (Ev.yes (by rw [len]; omega) ?_))
  rw [r2]
  refine Ev.bind (spec_l2Bytes_ev s.2.2.1 (by omega) (by omega)) (Ev.yes (by simp [ybytesV]) ?_)
  rw [show wrap64 (2 + 1) = 3 from by kernel_rfl]
  refine Ev.succ ?_
  simp only [spec_l2Digest.l3]
  refine Ev.yes (by omega) (Ev.yes (by omega) (Ev.yes (by rw [len]; omega) ?_))
  rw [r3]
  refine Ev.bind (spec_l2Bytes_ev s.2.2.2 (by omega) (by omega)) (Ev.yes (by simp [ybytesV]) ?_)
  rw [show wrap64 (3 + 1) = 4 from by kernel_rfl]
  refine Ev.succ ?_
  simp only [spec_l2Digest.l3]
  exact Ev.no (by omega) (Ev.now _)
theorem spec_l2Digest_l2 : ∀ (d i : Nat) (s : M4), 8 = i + d → Fit4 s → Ev (fun k => spec_l2Digest.l2 k (lst4 s) (i : Int)) (outV ((List.replicate d (0 : Int)).foldl eatV s)) := by
  intro d
  induction d with
  | zero =>
    intro i s h hs
    refine Ev.succ ?_
    simp only [spec_l2Digest.l2]
    exact Ev.no (by omega) (spec_l2Digest_l3 s hs)
  | succ d ih =>
    intro i s h hs
    refine Ev.succ ?_
    simp only [spec_l2Digest.l2]
    refine Ev.yes (by omega) (Ev.bind (show Ev (fun k => spec_l2Mix.f k (lst4 s) 0) (lst4 (eatV s 0)) from by have z := spec_l2Mix_ev s 0; rwa [show wrap64 0 = 0 from by kernel_rfl] at z) ?_)
    rw [wrap_nat (by omega)]
    exact ih (i + 1) _ (by omega) (eatV_fit hs (by omega))
theorem spec_l2Digest_l1 (l : List Int) (hl : l.length ≤ 1048576) (hb : ∀ x ∈ l, 0 ≤ x ∧ x ≤ 255) : ∀ (d i : Nat) (s : M4), l.length = i + d → Fit4 s →
    Ev (fun k => spec_l2Digest.l1 k (lst4 s) l (l.length : Int) (i : Int)) (outV ((List.replicate 8 (0 : Int)).foldl eatV ((l.drop i).foldl eatV s))) := by
  intro d
  induction d with
  | zero =>
    intro i s h hs
    refine Ev.succ ?_
    simp only [spec_l2Digest.l1]
    rw [List.drop_eq_nil_of_le (by omega)]
    exact Ev.no (by omega) (spec_l2Digest_l2 8 0 s rfl hs)
  | succ d ih =>
    intro i s h hs
    refine Ev.succ ?_
    simp only [spec_l2Digest.l1]
    refine Ev.yes (by omega) (Ev.yes (by omega) (Ev.yes (by omega) ?_))
    rw [rd_nat l i (by omega), wrap_nat (by omega), List.drop_eq_getElem_cons (show i < l.length by omega)]
    exact Ev.bind (spec_l2Mix_ev s _) (ih (i + 1) _ (by omega) (eatV_fit hs (hb _ (List.getElem_mem _))))
theorem spec_l2Digest_l0 (l : List Int) (hl : l.length ≤ 1048576) (hb : ∀ x ∈ l, 0 ≤ x ∧ x ≤ 255) : ∀ (d i : Nat) (s : M4), l.length = i + d → Fit4 s →
    Ev (fun k => spec_l2Digest.l0 k l (lst4 s) l (l.length : Int) (i : Int)) (outV ((List.replicate 8 (0 : Int)).foldl eatV ((ybytesV (l.length : Int)).foldl eatV ((l.drop i).foldl eatV s)))) := by
  intro d
  induction d with
  | zero =>
    intro i s h hs
    refine Ev.succ ?_
    simp only [spec_l2Digest.l0]
    rw [List.drop_eq_nil_of_le (by omega)]
    exact Ev.no (by omega) (Ev.bind (spec_l2Bytes_ev _ (by omega) (by omega)) (spec_l2Digest_l1 _ (by simp [ybytesV]) (ybytes_bytes _) 4 0 s rfl hs))
  | succ d ih =>
    intro i s h hs
    refine Ev.succ ?_
    simp only [spec_l2Digest.l0]
    refine Ev.yes (by omega) (Ev.yes (by omega) (Ev.yes (by omega) ?_))
    rw [rd_nat l i (by omega), wrap_nat (by omega), List.drop_eq_getElem_cons (show i < l.length by omega)]
    exact Ev.bind (spec_l2Mix_ev s _) (ih (i + 1) _ (by omega) (eatV_fit hs (hb _ (List.getElem_mem _))))
def digest (l : List Int) : List Int := outV (digV l)
theorem digest_len (l : List Int) : (digest l).length = 16 := rfl
theorem digest_bytes (l : List Int) : ∀ x ∈ digest l, 0 ≤ x ∧ x ≤ 255 := outV_bytes _
theorem spec_l2Digest_ev (l : List Int) (hl : l.length ≤ 1048576) (hb : ∀ x ∈ l, 0 ≤ x ∧ x ≤ 255) : Ev (fun k => spec_l2Digest.f k l) (digest l) := by
  unfold spec_l2Digest.f
  exact spec_l2Digest_l0 l hl hb l.length 0 (11, 22, 33, 44) (by omega) ⟨by decide, by decide, by decide, by decide⟩
theorem impl_Digest_eq (l : List Int) (hl : l.length ≤ 20000) : impl_Digest.f l = some (digest l) := by
  unfold impl_Digest.f digest
  rw [if_neg (by omega)]
theorem wf_u8 {l : List Int} (h : ∀ x ∈ l, (Lit.int .u8 x).wf = true) : ∀ x ∈ l, 0 ≤ x ∧ x ≤ 255 := by
  intro x hx
  have z := h x hx
  simp [Lit.wf, IntKind.min, IntKind.max, IntKind.signed, IntKind.bits] at z
  omega
theorem cat_bytes {a b : List Int} (ha : ∀ x ∈ a, 0 ≤ x ∧ x ≤ 255) (hb : ∀ x ∈ b, 0 ≤ x ∧ x ≤ 255) : ∀ x ∈ a ++ b, 0 ≤ x ∧ x ≤ 255 := by
  intro x hx
  rcases List.mem_append.1 hx with h | h
  · exact ha x h
  · exact hb x h
def macV (a b : List Int) : List Int := digest (digest a ++ digest b)
theorem spec_l2Mac_ev (a b : List Int) (ha : a.length ≤ 1048576) (hb : b.length ≤ 1048576) (ba : ∀ x ∈ a, 0 ≤ x ∧ x ≤ 255) (bb : ∀ x ∈ b, 0 ≤ x ∧ x ≤ 255) : Ev (fun k => spec_l2Mac.f k a b) (macV a b) := by
  unfold spec_l2Mac.f
  refine (spec_l2Digest_ev a ha ba).bind ((spec_l2Digest_ev b hb bb).bind (Ev.tail ?_))
  unfold spec_l2Two.f
  refine Ev.yes (by simp [digest_len]) ?_
  simp only [Option.bind_some, List.nil_append]
  refine Ev.yes (by simp [digest_len]) (Ev.tail ?_)
  exact spec_l2Digest_ev _ (by simp [digest_len]) (cat_bytes (digest_bytes _) (digest_bytes _))
theorem impl_Mac_ev (a b : List Int) : Ev (fun k => impl_Mac.f k a b) (if a.length > 20000 ∨ b.length > 20000 then [] else macV a b) := by
  have H : ∀ c : Bool, (c = true ↔ (a.length > 20000 ∨ b.length > 20000)) → Ev (fun k => impl_Mac.j0 k a b c) (if a.length > 20000 ∨ b.length > 20000 then [] else macV a b) := by
    intro c hc
    refine Ev.succ ?_
    simp only [impl_Mac.j0]
    refine Ev.ite (fun h => Ev.some ?_) fun h => ?_
    · rw [if_pos (hc.1 h)]
    · have h' : ¬ (a.length > 20000 ∨ b.length > 20000) := fun z => h (hc.2 z)
      rw [if_neg h']
      refine Ev.call (impl_Digest_eq a (by omega)) (Ev.call (impl_Digest_eq b (by omega)) (Ev.yes (by simp [digest_len]) (Ev.call (impl_Digest_eq _ (by simp [digest_len])) (Ev.now _))))
  unfold impl_Mac.f
  refine Ev.ite (fun h => H true ?_) fun h => H _ ?_
  · simp; omega
  · simp; omega
/-! ### bits of whole numbers -/
theorem wraps_i64 (n : Int) (h₀ : 0 ≤ n) (h₁ : n < 2 ^ 63) : IntKind.i64.wrap n = n := by rw [IntKind.wrap_i64]; omega
theorem i64_mask (j : Nat) (hj : j ≤ 63) (x : Int) (h₀ : 0 ≤ x) (h₁ : x < 9223372036854775808) : Go.bits .and .i64 x (2 ^ j - 1) = x % 2 ^ j :=
  bits_mask .i64 63 (by decide) wraps_i64 j hj x h₀ (by omega)
theorem i64_and1 (x : Int) (h₀ : 0 ≤ x) (h₁ : x < 9223372036854775808) : Go.bits .and .i64 x 1 = x % 2 := i64_mask 1 (by decide) x h₀ h₁
theorem i64_join (j : Nat) (x y : Int) (hx₀ : 0 ≤ x) (hx : x % 2 ^ j = 0) (hx₁ : x < 9223372036854775808) (hy₀ : 0 ≤ y) (hy : y < 2 ^ j) (hy₁ : y < 9223372036854775808) : Go.bits .or .i64 x y = x + y :=
  bits_join .i64 63 (by decide) wraps_i64 j x y hx₀ hx (by omega) hy₀ hy (by omega)
theorem shr_nat (x : Int) (i : Nat) (h : i ≤ 64) : shr .i64 x (i : Int) = x / 2 ^ i := by
  unfold shr
  rw [Int.toNat_natCast, Nat.min_eq_left (by simpa [IntKind.bits] using h)]
theorem u64_nat (i : Nat) (h : i < 9000000000000000000) : IntKind.u64.wrap (i : Int) = (i : Int) := by
  simp [IntKind.wrap, IntKind.bits, IntKind.signed]; omega
/-! ### the number of a digest -/
def numV (l : List Int) : Int := rd l 0 + 256 * rd l 1 + 65536 * rd l 2 + 16777216 * rd l 3
theorem rd_byte {l : List Int} (hb : ∀ x ∈ l, 0 ≤ x ∧ x ≤ 255) (i : Nat) (h : i < l.length) : 0 ≤ rd l (i : Int) ∧ rd l (i : Int) ≤ 255 := by
  rw [rd_nat l i h]; exact hb _ (List.getElem_mem h)
theorem numV_bounds {l : List Int} (hb : ∀ x ∈ l, 0 ≤ x ∧ x ≤ 255) (h : 4 ≤ l.length) : 0 ≤ numV l ∧ numV l ≤ 4294967295 := by
  have h0 : 0 ≤ rd l 0 ∧ rd l 0 ≤ 255 := rd_byte hb 0 (by omega)
  have h1 : 0 ≤ rd l 1 ∧ rd l 1 ≤ 255 := rd_byte hb 1 (by omega)
  have h2 : 0 ≤ rd l 2 ∧ rd l 2 ≤ 255 := rd_byte hb 2 (by omega)
  have h3 : 0 ≤ rd l 3 ∧ rd l 3 ≤ 255 := rd_byte hb 3 (by omega)
  unfold numV
  omega
theorem bits_or_comm (k : IntKind) (x y : Int) : Go.bits .or k x y = Go.bits .or k y x := by
  simp only [Go.bits, BitVec.or_comm]
theorem impl_ynumber_eq {l : List Int} (hb : ∀ x ∈ l, 0 ≤ x ∧ x ≤ 255) (h : 4 ≤ l.length) : impl_ynumber.f l = some (numV l) := by
  have h0 : 0 ≤ rd l 0 ∧ rd l 0 ≤ 255 := rd_byte hb 0 (by omega)
  have h1 : 0 ≤ rd l 1 ∧ rd l 1 ≤ 255 := rd_byte hb 1 (by omega)
  have h2 : 0 ≤ rd l 2 ∧ rd l 2 ≤ 255 := rd_byte hb 2 (by omega)
  have h3 : 0 ≤ rd l 3 ∧ rd l 3 ≤ 255 := rd_byte hb 3 (by omega)
  unfold impl_ynumber.f numV
  rw [if_neg (by omega), if_pos (by omega), if_pos (by omega), if_pos (by omega), if_pos (by omega)]
  congr 1
  generalize rd l 0 = a at *
  generalize rd l 1 = b at *
  generalize rd l 2 = c at *
  generalize rd l 3 = d at *
  rw [wrap_id (x := a) (by omega) (by omega), wrap_id (x := b) (by omega) (by omega), wrap_id (x := b * 256) (by omega) (by omega), wrap_id (x := c) (by omega) (by omega), wrap_id (x := c * 65536) (by omega) (by omega), wrap_id (x := d) (by omega) (by omega), wrap_id (x := d * 16777216) (by omega) (by omega)]
  rw [bits_or_comm _ a, i64_join 8 (b * 256) a (by omega) (by omega) (by omega) (by omega) (by omega) (by omega)]
  rw [bits_or_comm _ (b * 256 + a), i64_join 16 (c * 65536) (b * 256 + a) (by omega) (by omega) (by omega) (by omega) (by omega) (by omega)]
  rw [bits_or_comm _ (c * 65536 + (b * 256 + a)), i64_join 24 (d * 16777216) (c * 65536 + (b * 256 + a)) (by omega) (by omega) (by omega) (by omega) (by omega) (by omega)]
  omega
theorem spec_l2Number_ev {l : List Int} (hb : ∀ x ∈ l, 0 ≤ x ∧ x ≤ 255) (h : 4 ≤ l.length) : Ev (fun k => spec_l2Number.f k l) (numV l) := by
  have h0 : 0 ≤ rd l 0 ∧ rd l 0 ≤ 255 := rd_byte hb 0 (by omega)
  have h1 : 0 ≤ rd l 1 ∧ rd l 1 ≤ 255 := rd_byte hb 1 (by omega)
  have h2 : 0 ≤ rd l 2 ∧ rd l 2 ≤ 255 := rd_byte hb 2 (by omega)
  have h3 : 0 ≤ rd l 3 ∧ rd l 3 ≤ 255 := rd_byte hb 3 (by omega)
  unfold spec_l2Number.f numV
  refine Ev.succ ?_
  simp only [spec_l2Number.l0]
  refine Ev.yes (by omega) (Ev.yes (by omega) (Ev.yes (by omega) ?_))
  rw [show wrap64 (3 - 1) = 2 from by kernel_rfl]
  refine Ev.succ ?_
  simp only [spec_l2Number.l0]
  refine Ev.yes (by omega) (Ev.yes (by omega) (Ev.yes (by omega) ?_))
  rw [show wrap64 (2 - 1) = 1 from by kernel_rfl]
  refine Ev.succ ?_
  simp only [spec_l2Number.l0]
  refine Ev.yes (by omega) (Ev.yes (by omega) (Ev.yes (by omega) ?_))
  rw [show wrap64 (1 - 1) = 0 from by kernel_rfl]
  refine Ev.succ ?_
  simp only [spec_l2Number.l0]
  refine Ev.yes (by omega) (Ev.yes (by omega) (Ev.yes (by omega) ?_))
  rw [show wrap64 (0 - 1) = -1 from by kernel_rfl]
  refine Ev.succ ?_
  simp only [spec_l2Number.l0]
  refine Ev.no (by omega) (Ev.some ?_)
  generalize rd l 0 = a at *
  generalize rd l 1 = b at *
  generalize rd l 2 = c at *
  generalize rd l 3 = d at *
  unfold wrap64
  omega
theorem digest_num (l : List Int) : 0 ≤ numV (digest l) ∧ numV (digest l) ≤ 4294967295 := numV_bounds (digest_bytes l) (by simp [digest_len])
theorem spec_num (l : List Int) : Ev (fun k => spec_l2Number.f k (digest l)) (numV (digest l)) := spec_l2Number_ev (digest_bytes l) (by simp [digest_len])
theorem impl_num (l : List Int) : impl_ynumber.f (digest l) = some (numV (digest l)) := impl_ynumber_eq (digest_bytes l) (by simp [digest_len])
theorem rd_share (l : List S90) (i : Nat) (h : i < l.length) : rd_T90 l (i : Int) = l[i] := by
  unfold rd_T90; rw [Int.toNat_natCast, List.getD_eq_getElem?_getD, List.getElem?_eq_getElem h]; rfl
theorem rd_share_set (l : List S90) (i : Nat) (v : S90) (h : i < l.length) : rd_T90 (l.set i v) (i : Int) = v := by
  rw [rd_share _ i (by rw [List.length_set]; exact h), List.getElem_set_self]
theorem eqShareS_self (a : List S90) (hl : a.length ≤ 1048576) : Ev (fun k => laws_eqShareS.f k a a) true := by
  unfold laws_eqShareS.f
  refine Ev.yes rfl ?_
  have H : ∀ (d i : Nat), a.length = i + d → Ev (fun k => laws_eqShareS.l0 k a a (i : Int)) true := by
    intro d
    induction d with
    | zero =>
      intro i h
      refine Ev.succ ?_
      simp only [laws_eqShareS.l0]
      exact Ev.no (by omega) (Ev.now _)
    | succ d ih =>
      intro i h
      refine Ev.succ ?_
      simp only [laws_eqShareS.l0]
      refine Ev.yes (by omega) (Ev.yes (by omega) (Ev.yes (by omega) (Ev.call (a := true) (by unfold laws_eqShare.f; rw [if_pos rfl, if_pos rfl]) (Ev.yes rfl ?_))))
      rw [wrap_nat (by omega)]
      exact ih (i + 1) (by omega)
  exact H a.length 0 (by omega)
def shm (m n : Nat) : List S90 := (List.range n).map fun i => ⟨((m + 2 * i : Nat) : Int), ((m + 2 * i + 1 : Nat) : Int)⟩
theorem shm_len (m n : Nat) : (shm m n).length = n := by simp [shm]
theorem shm_get (m n i : Nat) (h : i < n) : (shm m n)[i]'(by rw [shm_len]; exact h) = ⟨((m + 2 * i : Nat) : Int), ((m + 2 * i + 1 : Nat) : Int)⟩ := by simp [shm]
theorem markShareS_ev (l : List S90) (m : Nat) (hm : m ≤ 9000000) (hl : l.length ≤ 1048576) : Ev (fun k => laws_markShareS.f k l (m : Int)) (((m + 2 * l.length : Nat) : Int), shm m l.length) := by
  unfold laws_markShareS.f
  have H : ∀ (d i : Nat), l.length = i + d → Ev (fun k => laws_markShareS.l0 k ((shm m l.length).take i ++ l.drop i) ((m + 2 * i : Nat) : Int) (i : Int)) (((m + 2 * l.length : Nat) : Int), shm m l.length) := by
    intro d
    induction d with
    | zero =>
      intro i h
      refine Ev.succ ?_
      simp only [laws_markShareS.l0]
      refine Ev.no (by simp [shm_len]; omega) (Ev.some ?_)
      obtain rfl : i = l.length := by omega
      rw [List.drop_length, List.append_nil, List.take_of_length_le (by rw [shm_len]; exact Nat.le_refl _)]
    | succ d ih =>
      intro i h
      refine Ev.succ ?_
      simp only [laws_markShareS.l0, Option.bind_some]
      refine Ev.yes (by simp [shm_len]; omega) (Ev.yes (by omega) ?_)
      have z := ih (i + 1) (by omega)
      have hlen : i < ((shm m l.length).take i ++ l.drop i).length := by simp [shm_len]; omega
      have e1 : ∀ v, ((shm m l.length).take i ++ l.drop i).set i v = (shm m l.length).take i ++ v :: l.drop (i + 1) := by
        intro v
        rw [List.set_append_right _ _ (by simp [shm_len]; omega), show i - ((shm m l.length).take i).length = 0 by simp [shm_len]; omega]
        rw [List.drop_eq_getElem_cons (show i < l.length by omega), List.set_cons_zero]
      rw [Int.toNat_natCast, wrap_nat (show m + 2 * i < 9000000000000000000 by omega), wrap_nat (show m + 2 * i + 1 < 9000000000000000000 by omega), wrap_nat (show i < 9000000000000000000 by omega)]
      rw [rd_share_set _ i _ hlen, List.set_set, e1]
      have e2 : (shm m l.length).take (i + 1) ++ l.drop (i + 1) = (shm m l.length).take i ++ (⟨((m + 2 * i : Nat) : Int), ((m + 2 * i + 1 : Nat) : Int)⟩ : S90) :: l.drop (i + 1) := by
        rw [List.take_succ_eq_append_getElem (by rw [shm_len]; omega), shm_get _ _ _ (by omega), List.append_assoc]; rfl
      rw [e2, show m + 2 * (i + 1) = m + 2 * i + 1 + 1 by omega] at z
      exact z
  exact H l.length 0 (by omega)
theorem heldShareS_ev (m n : Nat) (hm : m ≤ 9000000) (hl : n ≤ 1048576) : Ev (fun k => laws_heldShareS.f k (shm m n) (m : Int)) ((m + 2 * n : Nat) : Int) := by
  unfold laws_heldShareS.f
  have H : ∀ (d i : Nat), n = i + d → Ev (fun k => laws_heldShareS.l0 k (shm m n) ((m + 2 * i : Nat) : Int) (i : Int)) ((m + 2 * n : Nat) : Int) := by
    intro d
    induction d with
    | zero =>
      intro i h
      refine Ev.succ ?_
      simp only [laws_heldShareS.l0]
      refine Ev.no (by rw [shm_len]; omega) (Ev.some ?_)
      rw [h]; rfl
    | succ d ih =>
      intro i h
      refine Ev.succ ?_
      simp only [laws_heldShareS.l0]
      have g := rd_share (shm m n) i (by rw [shm_len]; omega)
      rw [shm_get _ _ _ (by omega)] at g
      rw [g, wrap_nat (show m + 2 * i < 9000000000000000000 by omega), wrap_nat (show m + 2 * i + 1 < 9000000000000000000 by omega), wrap_nat (show i < 9000000000000000000 by omega)]
      refine Ev.yes (by rw [shm_len]; omega) (Ev.yes (by omega) (Ev.yes rfl (Ev.yes rfl ?_)))
      have z := ih (i + 1) (by omega)
      rw [show m + 2 * (i + 1) = m + 2 * i + 1 + 1 by omega] at z
      exact z
  exact H n 0 (by omega)
/-! ### the two loops -/
abbrev Same (A B : Nat → Option (List S90)) : Prop := ∃ r, Ev A r ∧ Ev B r ∧ r.length ≤ 20
theorem split_l1 (s n need : Int) (key : List Int) (hk : key.length ≤ 20000) (hb : ∀ x ∈ key, 0 ≤ x ∧ x ≤ 255) (x9 : List S90) (i : Int) (h9 : x9.length ≤ 20)
    (go : ∀ v : Int, Same (fun k => spec_Split.l0 k s n need key (x9 ++ [⟨i, v⟩]) (wrap64 (i + 1))) (fun k => impl_Split.l0 k s n need key (x9 ++ [⟨i, v⟩]) (wrap64 (i + 1)))) :
    ∀ (d j : Nat), need ≤ j + d → j + d ≤ 100 → ∀ x11 x12 : Int, Same (fun k => spec_Split.l1 k s n need key x9 i x11 x12 (j : Int)) (fun k => impl_Split.l1 k s n need key x9 i x11 x12 (j : Int)) := by
  intro d
  induction d with
  | zero =>
    intro j h hj x11 x12
    obtain ⟨r, a, b, c⟩ := go x11
    refine ⟨r, Ev.succ ?_, Ev.succ ?_, c⟩
    · simp only [spec_Split.l1]
      exact Ev.no (by omega) (Ev.yes (by omega) a)
    · simp only [impl_Split.l1]
      exact Ev.no (by omega) (Ev.yes (by omega) b)
  | succ d ih =>
    intro j h hj x11 x12
    by_cases hlt : (j : Int) < need
    · have hx : ∀ x ∈ [(j : Int) % 256], 0 ≤ x ∧ x ≤ 255 := by
        intro x hx; rw [List.mem_singleton.1 hx]; omega
      obtain ⟨r, a, b, c⟩ := ih (j + 1) (by omega) (by omega) (Int.tmod (wrap64 (x11 + (wrap64 ((Int.tmod (numV (macV key [(j : Int) % 256])) 1073741789) * (Int.tmod (wrap64 (x12 * i)) 1073741789))))) 1073741789) (Int.tmod (wrap64 (x12 * i)) 1073741789)
      refine ⟨r, Ev.succ ?_, Ev.succ ?_, c⟩
      · simp only [spec_Split.l1]
        refine Ev.yes hlt ((spec_l2Mac_ev key _ (by omega) (by simp) hb hx).bind ((spec_num _).bind ?_))
        rw [wrap_nat (by omega)]; exact a
      · simp only [impl_Split.l1]
        have M := impl_Mac_ev key [(j : Int) % 256]
        rw [if_neg (by simp; omega)] at M
        refine Ev.yes hlt (M.bind (Ev.call (impl_num _) ?_))
        rw [wrap_nat (by omega)]; exact b
    · obtain ⟨r, a, b, c⟩ := go x11
      refine ⟨r, Ev.succ ?_, Ev.succ ?_, c⟩
      · simp only [spec_Split.l1]
        exact Ev.no hlt (Ev.yes (by omega) a)
      · simp only [impl_Split.l1]
        exact Ev.no hlt (Ev.yes (by omega) b)
theorem split_l0 (s n need : Int) (key : List Int) (hk : key.length ≤ 20000) (hb : ∀ x ∈ key, 0 ≤ x ∧ x ≤ 255) (hn : n ≤ 20) (hneed : need ≤ n) :
    ∀ (d i : Nat) (x9 : List S90), n + 1 ≤ i + d → i + d ≤ 100 → x9.length + d ≤ 20 → Same (fun k => spec_Split.l0 k s n need key x9 (i : Int)) (fun k => impl_Split.l0 k s n need key x9 (i : Int)) := by
  intro d
  induction d with
  | zero =>
    intro i x9 h hi h9
    refine ⟨x9, Ev.succ ?_, Ev.succ ?_, by omega⟩
    · simp only [spec_Split.l0]; exact Ev.no (by omega) (Ev.now _)
    · simp only [impl_Split.l0]; exact Ev.no (by omega) (Ev.now _)
  | succ d ih =>
    intro i x9 h hi h9
    by_cases hlt : (i : Int) ≤ n
    · obtain ⟨r, a, b, c⟩ := split_l1 s n need key hk hb x9 (i : Int) (by omega) (fun v => by
        have z := ih (i + 1) (x9 ++ [⟨(i : Int), v⟩]) (by omega) (by omega) (by simp; omega)
        rw [wrap_nat (by omega)]; exact z) 20 1 (by omega) (by omega) s 1
      refine ⟨r, Ev.succ ?_, Ev.succ ?_, c⟩
      · simp only [spec_Split.l0]; exact Ev.yes hlt a
      · simp only [impl_Split.l0]; exact Ev.yes hlt b
    · refine ⟨x9, Ev.succ ?_, Ev.succ ?_, by omega⟩
      · simp only [spec_Split.l0]; exact Ev.no hlt (Ev.now _)
      · simp only [impl_Split.l0]; exact Ev.no hlt (Ev.now _)
theorem split_same (s n need : Int) (key : List Int) (hb : ∀ x ∈ key, 0 ≤ x ∧ x ≤ 255) : Same (fun k => spec_Split.f k s n need key) (fun k => impl_Split.f k s n need key) := by
  have T : Same (fun k => spec_Split.j0 k s n need key true) (fun k => impl_Split.j0 k s n need key true) :=
    ⟨[], Ev.succ (by simp only [spec_Split.j0]; exact Ev.yes trivial (Ev.now _)), Ev.succ (by simp only [impl_Split.j0]; exact Ev.yes trivial (Ev.now _)), by simp⟩
  unfold spec_Split.f impl_Split.f
  by_cases h1 : s < 0
  · obtain ⟨r, a, b, c⟩ := T
    exact ⟨r, Ev.yes h1 a, Ev.yes h1 b, c⟩
  by_cases h2 : s ≥ 1073741789
  · obtain ⟨r, a, b, c⟩ := T
    exact ⟨r, Ev.no h1 (Ev.yes h2 a), Ev.no h1 (Ev.yes h2 b), c⟩
  by_cases h3 : need < 1
  · obtain ⟨r, a, b, c⟩ := T
    exact ⟨r, Ev.no h1 (Ev.no h2 (Ev.yes h3 a)), Ev.no h1 (Ev.no h2 (Ev.yes h3 b)), c⟩
  by_cases h4 : n < need
  · obtain ⟨r, a, b, c⟩ := T
    exact ⟨r, Ev.no h1 (Ev.no h2 (Ev.no h3 (Ev.yes h4 a))), Ev.no h1 (Ev.no h2 (Ev.no h3 (Ev.yes (by omega) b))), c⟩
  by_cases h5 : n > 20
  · obtain ⟨r, a, b, c⟩ := T
    exact ⟨r, Ev.no h1 (Ev.no h2 (Ev.no h3 (Ev.no h4 (Ev.yes h5 a)))), Ev.no h1 (Ev.no h2 (Ev.no h3 (Ev.no (by omega) (Ev.yes h5 b)))), c⟩
  have J : Same (fun k => spec_Split.j0 k s n need key (decide ((key.length : Int) > 20000))) (fun k => impl_Split.j0 k s n need key (decide ((key.length : Int) > 20000))) := by
    by_cases h6 : (key.length : Int) > 20000
    · rw [decide_eq_true h6]; exact T
    · rw [decide_eq_false h6]
      obtain ⟨r, a, b, c⟩ := split_l0 s n need key (by omega) hb (by omega) (by omega) 20 1 [] (by omega) (by omega) (by simp)
      refine ⟨r, Ev.succ ?_, Ev.succ ?_, c⟩
      · simp only [spec_Split.j0]; exact Ev.no (by decide) a
      · simp only [impl_Split.j0]; exact Ev.no (by decide) b
  obtain ⟨r, a, b, c⟩ := J
  exact ⟨r, Ev.no h1 (Ev.no h2 (Ev.no h3 (Ev.no h4 (Ev.no h5 a)))), Ev.no h1 (Ev.no h2 (Ev.no h3 (Ev.no (by omega) (Ev.no h5 b)))), c⟩
theorem FnExactSplit : laws_FnExactSplit.Pure := by
  intro s n need l _ _ _ _ _ hw
  have hb := wf_u8 hw
  apply Ev.rounds
  unfold laws_FnExactSplit.f
  refine Ev.ite (fun _ => Ev.now _) fun hl => ?_
  have hl : l.length ≤ 1048576 := by omega
  obtain ⟨r, S, I, hr⟩ := split_same s n need l hb
  have T := toByteS_ev l hl
  have R := eqShareS_self r (by omega)
  refine T.bind (S.bind (T.bind (I.bind (R.bind (Ev.yes rfl (T.bind ((eqByteS_self l hl).bind (Ev.yes rfl ?_))))))))
  refine (markByteS_ev l 1 (by omega) hl).bind (Ev.no (by simp only []; omega) (R.bind ?_))
  refine Ev.succ ?_
  simp only [laws_FnExactSplit.j0]
  have H := heldShareS_ev 1 r.length (by omega) (by omega)
  refine Ev.no (by decide) ((markShareS_ev r 1 (by omega) (by omega)).bind (H.bind (Ev.no (by omega) (Ev.yes rfl (T.bind (I.bind (R.bind (Ev.yes rfl ?_))))))))
  exact H.bind (Ev.no (by omega) (Ev.yes rfl (Ev.now _)))

end Go.Proofs.Ytmnlgdmojbhfcab.Pure
