/- The program's Armor answers what the reference's answers, for all bytes.
Conditions: none but the row's own. -/
import Derived.Test.YticgmgbbdicgdaaPFnExactArmorx2
namespace Go.Proofs.Yticgmgbbdicgdaa.Pure
open Go.RowKit Go.Proofs.Yticgmgbbdicgdaa.PFnExactArmor Go.Proofs.YticgmgbbdicgdaaW.PrintWords Go.Proofs.YticgmgbbdicgdaaW.PrintLast
set_option linter.unusedVariables false
set_option linter.unusedSimpArgs false

/-! ### from some number of rounds on -/
theorem Ev.yes {α : Type} {c : Prop} {inst : Decidable c} {A B : Nat → Option α} {r : α} (h : c) (k : Ev A r) : Ev (fun n => @ite _ c inst (A n) (B n)) r :=
  k.congr fun n => if_pos h
theorem Ev.no {α : Type} {c : Prop} {inst : Decidable c} {A B : Nat → Option α} {r : α} (h : ¬ c) (k : Ev B r) : Ev (fun n => @ite _ c inst (A n) (B n)) r :=
  k.congr fun n => if_neg h
theorem Ev.ite {α : Type} {c : Prop} {inst : Decidable c} {A B : Nat → Option α} {r : α} (h : c → Ev A r) (k : ¬ c → Ev B r) : Ev (fun n => @ite _ c inst (A n) (B n)) r := by
  by_cases e : c
  · exact Ev.yes e (h e)
  · exact Ev.no e (k e)
theorem Ev.some {α : Type} {a r : α} (h : a = r) : Ev (fun _ => some a) r := h ▸ Ev.now a
/-- A callee without rounds. -/
theorem Ev.call {α β : Type} {g : Option α} {f : Nat → α → Option β} {a : α} {r : β} (h : g = Option.some a) (k : Ev (fun n => f n a) r) : Ev (fun n => g.bind (f n)) r := by
  refine k.congr fun n => ?_
  rw [h]; rfl
theorem Ev.tail {α : Type} {g : Nat → Option α} {r : α} (h : Ev g r) : Ev (fun n => (g n).bind fun t => Option.some t) r := h.bind (Ev.now r)
theorem Ev.succ {α : Type} {g : Nat → Option α} {r : α} (h : Ev (fun k => g (k + 1)) r) : Ev g r := Ev.step (fun _ => rfl) h
theorem wrap_nat {i : Nat} (h : i < 9000000000000000000) : wrap64 ((i : Int) + 1) = ((i + 1 : Nat) : Int) := by unfold wrap64; omega
theorem wrap_id {x : Int} (h0 : -9223372036854775808 ≤ x) (h1 : x ≤ 9223372036854775807) : wrap64 x = x := by unfold wrap64; omega
theorem bt_nat (s : ByteArray) (i : Nat) (h : i < s.size) : bt s (i : Int) = (bytesOf s)[i]'(by rw [bytesOf_length]; exact h) := by
  have := rd_bytesOf s (i : Int)
  rw [← this]; unfold rd; rw [Int.toNat_natCast, List.getD_eq_getElem?_getD, List.getElem?_eq_getElem (by rw [bytesOf_length]; exact h)]; rfl
theorem drop_bytes (s : ByteArray) (i : Nat) (h : i < s.size) : (bytesOf s).drop i = bt s (i : Int) :: (bytesOf s).drop (i + 1) := by
  rw [bt_nat s i h]; exact List.drop_eq_getElem_cons (by rw [bytesOf_length]; exact h)
theorem bytes_range (s : ByteArray) : ∀ b ∈ bytesOf s, 0 ≤ b ∧ b ≤ 255 := by
  intro b hb
  unfold bytesOf at hb
  obtain ⟨x, _, rfl⟩ := List.mem_map.1 hb
  have := x.toNat_lt
  omega
/-- A loop over a string that asks each byte. -/
theorem loop_all {l : Nat → Int → Option Bool} {p : Int → Bool} {s : ByteArray}
    (yes : ∀ i : Nat, i < s.size → p (bt s i) = true → ∀ r, Ev (fun k => l k ((i + 1 : Nat) : Int)) r → Ev (fun k => l k (i : Int)) r)
    (no : ∀ i : Nat, i < s.size → p (bt s i) = false → Ev (fun k => l k (i : Int)) false)
    (done : Ev (fun k => l k (s.size : Int)) true) :
    ∀ (d i : Nat), s.size = i + d → Ev (fun k => l k (i : Int)) (((bytesOf s).drop i).all p) := by
  intro d
  induction d with
  | zero =>
    intro i h
    obtain rfl : i = s.size := by omega
    rw [List.drop_eq_nil_of_le (by rw [bytesOf_length]; exact Nat.le_refl _)]
    exact done
  | succ d ih =>
    intro i h
    rw [drop_bytes s i (by omega), List.all_cons]
    cases hp : p (bt s i) with
    | true => rw [Bool.true_and]; exact yes i (by omega) hp _ (ih (i + 1) (by omega))
    | false => rw [Bool.false_and]; exact no i (by omega) hp
/-! ### lists of numbers, and what the law's own functions do with bytes -/
theorem rd_nat (l : List Int) (i : Nat) (h : i < l.length) : rd l (i : Int) = l[i] := by
  unfold rd; rw [Int.toNat_natCast, List.getD_eq_getElem?_getD, List.getElem?_eq_getElem h]; rfl
theorem set_step {β : Type} (xs : List β) (z : β) (i : Nat) (h : i < xs.length) :
    (xs.take i ++ List.replicate (xs.length - i) z).set i xs[i] = xs.take (i + 1) ++ List.replicate (xs.length - (i + 1)) z := by
  obtain ⟨d, hd⟩ : ∃ d, xs.length - i = d + 1 := ⟨xs.length - i - 1, by omega⟩
  rw [hd, show xs.length - (i + 1) = d by omega, List.replicate_succ, List.set_append_right _ _ (by simp; omega)]
  rw [show i - (xs.take i).length = 0 by simp; omega, List.set_cons_zero, List.take_succ_eq_append_getElem h, List.append_assoc]; rfl
theorem fill_len {β : Type} (xs : List β) (z : β) (i : Nat) (h : i ≤ xs.length) : (xs.take i ++ List.replicate (xs.length - i) z).length = xs.length := by simp; omega
theorem toByteS_l0 (l : List Int) (hl : l.length ≤ 1048576) : ∀ (d i : Nat), l.length = i + d → Ev (fun k => laws_toByteS.l0 k l (l.take i ++ List.replicate (l.length - i) 0) (i : Int)) l := by
  intro d
  induction d with
  | zero =>
    intro i h
    refine Ev.succ ?_
    simp only [laws_toByteS.l0]
    refine Ev.no (by omega) (Ev.some ?_)
    rw [show l.length - i = 0 by omega, List.replicate_zero, List.append_nil, List.take_of_length_le (by omega)]
  | succ d ih =>
    intro i h
    refine Ev.succ ?_
    simp only [laws_toByteS.l0]
    refine Ev.yes (by omega) (Ev.yes (by omega) (Ev.yes (by rw [fill_len _ _ _ (by omega)]; omega) ?_))
    have z := ih (i + 1) (by omega)
    rw [wrap_nat (by omega), Int.toNat_natCast, rd_nat l i (by omega), set_step l 0 i (by omega)]
    exact z
theorem toByteS_ev (l : List Int) (hl : l.length ≤ 1048576) : Ev (fun k => laws_toByteS.f k l) l := by
  unfold laws_toByteS.f
  refine Ev.yes (by omega) (Ev.yes (by omega) ?_)
  exact toByteS_l0 l hl l.length 0 (by omega)
theorem eqByteS_l0 (a b : List Int) (hl : a.length ≤ 1048576) (hab : a.length = b.length) : ∀ (d i : Nat), a.length = i + d → Ev (fun k => laws_eqByteS.l0 k a b (i : Int)) (decide (a.drop i = b.drop i)) := by
  intro d
  induction d with
  | zero =>
    intro i h
    refine Ev.succ ?_
    simp only [laws_eqByteS.l0]
    refine Ev.no (by omega) (Ev.some ?_)
    rw [List.drop_eq_nil_of_le (by omega), List.drop_eq_nil_of_le (by omega)]; rfl
  | succ d ih =>
    intro i h
    refine Ev.succ ?_
    simp only [laws_eqByteS.l0]
    refine Ev.yes (by omega) (Ev.yes (by omega) (Ev.yes (by omega) ?_))
    have z := ih (i + 1) (by omega)
    rw [rd_nat a i (by omega), rd_nat b i (by omega), wrap_nat (by omega)]
    rw [List.drop_eq_getElem_cons (show i < a.length by omega), List.drop_eq_getElem_cons (show i < b.length by omega)]
    refine Ev.ite (fun e => ?_) (fun e => Ev.some ?_)
    · have : decide (a[i] :: a.drop (i + 1) = b[i] :: b.drop (i + 1)) = decide (a.drop (i + 1) = b.drop (i + 1)) := by
        rw [decide_eq_decide]
        exact ⟨fun h => (List.cons.inj h).2, fun h => by rw [e, h]⟩
      rw [this]; exact z
    · rw [eq_comm, decide_eq_false_iff_not]; exact fun h => e (List.cons.inj h).1
theorem eqByteS_ev (a b : List Int) (hl : a.length ≤ 1048576) : Ev (fun k => laws_eqByteS.f k a b) (decide (a = b)) := by
  unfold laws_eqByteS.f
  refine Ev.ite (fun h => ?_) (fun h => Ev.some ?_)
  · exact eqByteS_l0 a b hl (by omega) a.length 0 (by omega)
  · rw [eq_comm, decide_eq_false_iff_not]; intro e; exact h (by rw [e])
theorem eqByteS_self (a : List Int) (hl : a.length ≤ 1048576) : Ev (fun k => laws_eqByteS.f k a a) true := by
  have h := eqByteS_ev a a hl; rwa [decide_eq_true rfl] at h
/-! ### bits of whole numbers -/
theorem wraps_i64 (n : Int) (h₀ : 0 ≤ n) (h₁ : n < 2 ^ 63) : IntKind.i64.wrap n = n := by rw [IntKind.wrap_i64]; omega
theorem i64_mask (j : Nat) (hj : j ≤ 63) (x : Int) (h₀ : 0 ≤ x) (h₁ : x < 9223372036854775808) : Go.bits .and .i64 x (2 ^ j - 1) = x % 2 ^ j :=
  bits_mask .i64 63 (by decide) wraps_i64 j hj x h₀ (by omega)
theorem i64_and1 (x : Int) (h₀ : 0 ≤ x) (h₁ : x < 9223372036854775808) : Go.bits .and .i64 x 1 = x % 2 := i64_mask 1 (by decide) x h₀ h₁
theorem i64_join (j : Nat) (x y : Int) (hx₀ : 0 ≤ x) (hx : x % 2 ^ j = 0) (hx₁ : x < 9223372036854775808) (hy₀ : 0 ≤ y) (hy : y < 2 ^ j) (hy₁ : y < 9223372036854775808) : Go.bits .or .i64 x y = x + y :=
  bits_join .i64 63 (by decide) wraps_i64 j x y hx₀ hx (by omega) hy₀ hy (by omega)
theorem shr_nat (x : Int) (i : Nat) (h : i ≤ 64) : shr .i64 x (i : Int) = x / 2 ^ i := by
  unfold shr
  rw [Int.toNat_natCast, Nat.min_eq_left (by simpa [IntKind.bits] using h)]
theorem u64_nat (i : Nat) (h : i < 9000000000000000000) : IntKind.u64.wrap (i : Int) = (i : Int) := by
  simp [IntKind.wrap, IntKind.bits, IntKind.signed]; omega
theorem wf_u8 {l : List Int} (h : ∀ x ∈ l, (Lit.int .u8 x).wf = true) : ∀ x ∈ l, 0 ≤ x ∧ x ≤ 255 := by
  intro x hx
  have z := h x hx
  simp [Lit.wf, IntKind.min, IntKind.max, IntKind.signed, IntKind.bits] at z
  omega
def bitAt (l : List Int) (k : Nat) : Int := if k < 8 * l.length then rd l ((k / 8 : Nat) : Int) / 2 ^ (7 - k % 8) % 2 else 0
def valF (f : Nat → Int) (p : Nat) : Nat → Int
  | 0 => 0
  | m + 1 => valF f p m * 2 + f (p + m)
theorem valF_add (f : Nat → Int) (p m : Nat) : ∀ n, valF f p (m + n) = valF f p m * 2 ^ n + valF f (p + m) n
  | 0 => by simp [valF]
  | n + 1 => by
    rw [← Nat.add_assoc]
    show valF f p (m + n) * 2 + f (p + (m + n)) = valF f p m * 2 ^ (n + 1) + (valF f (p + m) n * 2 + f (p + m + n))
    rw [valF_add f p m n, Int.pow_succ, Int.add_mul, Int.mul_assoc, Int.add_assoc, Nat.add_assoc]
theorem valF_range {f : Nat → Int} (hf : ∀ k, 0 ≤ f k ∧ f k ≤ 1) (p : Nat) : ∀ n, 0 ≤ valF f p n ∧ valF f p n < 2 ^ n
  | 0 => ⟨Int.le_refl _, (show (0 : Int) < 2 ^ 0 by decide)⟩
  | n + 1 => by
    have h := valF_range hf p n
    have g := hf (p + n)
    rw [Int.pow_succ]
    show 0 ≤ valF f p n * 2 + f (p + n) ∧ valF f p n * 2 + f (p + n) < 2 ^ n * 2
    omega
theorem two_pos (n : Nat) : (0 : Int) < 2 ^ n := Int.pow_pos (by decide)
theorem valF_div {f : Nat → Int} (hf : ∀ k, 0 ≤ f k ∧ f k ≤ 1) (p m n : Nat) : valF f p (m + n) / 2 ^ n = valF f p m := by
  have h := valF_range hf (p + m) n
  have g := two_pos n
  rw [valF_add, Int.add_comm, Int.add_mul_ediv_right _ _ (by omega), Int.ediv_eq_zero_of_lt h.1 h.2, Int.zero_add]
theorem valF_mod {f : Nat → Int} (hf : ∀ k, 0 ≤ f k ∧ f k ≤ 1) (p m n : Nat) : valF f p (m + n) % 2 ^ n = valF f (p + m) n := by
  have h := valF_range hf (p + m) n
  rw [valF_add, Int.add_comm, Int.add_mul_emod_self_right, Int.emod_eq_of_lt h.1 h.2]
theorem valF_none {f : Nat → Int} (p : Nat) : ∀ n, (∀ k, p ≤ k → f k = 0) → valF f p n = 0
  | 0, _ => rfl
  | n + 1, h => by
    show valF f p n * 2 + f (p + n) = 0
    rw [valF_none p n h, h _ (by omega)]; rfl
theorem bitAt_range (l : List Int) (k : Nat) : 0 ≤ bitAt l k ∧ bitAt l k ≤ 1 := by
  unfold bitAt
  split <;> omega
theorem bitAt_eq (l : List Int) (i j : Nat) (hi : i < l.length) (hj : j < 8) : bitAt l (8 * i + j) = rd l (i : Int) / 2 ^ (7 - j) % 2 := by
  unfold bitAt
  rw [if_pos (by omega), show (8 * i + j) / 8 = i by omega, show (8 * i + j) % 8 = j by omega]
theorem valF_byte (l : List Int) (hb : ∀ x ∈ l, 0 ≤ x ∧ x ≤ 255) (i : Nat) (hi : i < l.length) : valF (bitAt l) (8 * i) 8 = rd l (i : Int) := by
  have hx : 0 ≤ rd l (i : Int) ∧ rd l (i : Int) ≤ 255 := by rw [rd_nat l i hi]; exact hb _ (List.getElem_mem hi)
  simp only [valF]
  rw [bitAt_eq l i 0 hi (by omega), bitAt_eq l i 1 hi (by omega), bitAt_eq l i 2 hi (by omega), bitAt_eq l i 3 hi (by omega), bitAt_eq l i 4 hi (by omega), bitAt_eq l i 5 hi (by omega), bitAt_eq l i 6 hi (by omega), bitAt_eq l i 7 hi (by omega)]
  rw [show ((2 : Int) ^ (7 - 0)) = 128 by decide, show ((2 : Int) ^ (7 - 1)) = 64 by decide, show ((2 : Int) ^ (7 - 2)) = 32 by decide, show ((2 : Int) ^ (7 - 3)) = 16 by decide, show ((2 : Int) ^ (7 - 4)) = 8 by decide, show ((2 : Int) ^ (7 - 5)) = 4 by decide, show ((2 : Int) ^ (7 - 6)) = 2 by decide, show ((2 : Int) ^ (7 - 7)) = 1 by decide]
  omega
def chN (n : Int) : UInt8 := yarm.data.getD n.toNat 0
theorem chB_eq (x : Int) (h0 : 0 ≤ x) (h1 : x < 9223372036854775808) : chB x = chN (x % 32) := by
  have e : Go.bits .and .i64 x 31 = x % 32 := i64_mask 5 (by decide) x h0 h1
  unfold chB chN
  have hlt : (x % 32).toNat < yarm.data.size := by show _ < 32; omega
  rw [← Array.getElem_eq_getD (h := hlt)]
  simp only [e]
  rfl
def outs (f : Nat → Int) (q : Nat) : List UInt8 := (List.range q).map fun j => chN (valF f (5 * j) 5)
theorem outs_succ (f : Nat → Int) (q : Nat) : outs f (q + 1) = outs f q ++ [chN (valF f (5 * q) 5)] := by
  unfold outs
  rw [List.range_succ, List.map_append]; rfl
theorem pow_small (n : Nat) (h : n ≤ 12) : (2 : Int) ^ n ≤ 4096 := by
  have : (2 : Int) ^ n ≤ 2 ^ 12 := by
    have z := Nat.pow_le_pow_right (show 0 < 2 by decide) h
    exact_mod_cast z
  exact this
theorem arF_val {f : Nat → Int} (hf : ∀ k, 0 ≤ f k ∧ f k ≤ 1) (q0 B : Nat) (hB : B ≤ 12) : ∀ (n b' q' : Nat), 5 * q' + b' = 5 * q0 + B → q0 ≤ q' → b' < 5 * n + 5 →
    arF (valF f (5 * q0) B) n (b' : Int) (outs f q') = ((((5 * q0 + B) % 5 : Nat) : Int), outs f ((5 * q0 + B) / 5)) := by
  intro n
  induction n with
  | zero =>
    intro b' q' he hq hb
    rw [arF_stop _ _ _ _ (by omega), show (5 * q0 + B) % 5 = b' by omega, show (5 * q0 + B) / 5 = q' by omega]
  | succ n ih =>
    intro b' q' he hq hb
    by_cases h5 : 5 ≤ b'
    · rw [arF_step _ _ _ _ (by omega), show ((b' : Int) - 5) = ((b' - 5 : Nat) : Int) by omega, Int.toNat_natCast, Nat.min_eq_left (by omega)]
      have eB : B = (5 * q' - 5 * q0 + 5) + (b' - 5) := by omega
      have e : valF f (5 * q0) B / 2 ^ (b' - 5) = valF f (5 * q0) (5 * q' - 5 * q0 + 5) := by
        conv => lhs; rw [eB]
        exact valF_div hf _ _ _
      have hr := valF_range hf (5 * q0) (5 * q' - 5 * q0 + 5)
      have hs := pow_small (5 * q' - 5 * q0 + 5) (by omega)
      rw [e, chB_eq _ hr.1 (by omega)]
      have m := valF_mod hf (5 * q0) (5 * q' - 5 * q0) 5
      rw [show 5 * q0 + (5 * q' - 5 * q0) = 5 * q' by omega] at m
      rw [show valF f (5 * q0) (5 * q' - 5 * q0 + 5) % 32 = valF f (5 * q') 5 from m, ← outs_succ]
      exact ih (b' - 5) (q' + 1) (by omega) (by omega) (by omega)
    · rw [arF_stop _ _ _ _ (by omega), show (5 * q0 + B) % 5 = b' by omega, show (5 * q0 + B) / 5 = q' by omega]
theorem mask_val (b : Nat) (h : b < 5) : wrap64 (wrap64 (2 ^ min ((b : Int)).toNat 64) - 1) = 2 ^ b - 1 := by
  rw [Int.toNat_natCast]
  have e : b = 0 ∨ b = 1 ∨ b = 2 ∨ b = 3 ∨ b = 4 := by omega
  rcases e with rfl | rfl | rfl | rfl | rfl <;> (unfold wrap64; decide)
theorem armor_state (l : List Int) (hb : ∀ x ∈ l, 0 ≤ x ∧ x ≤ 255) : ∀ i, i ≤ l.length → (l.take i).foldl arS ⟨0, 0, []⟩ = ⟨valF (bitAt l) (5 * (8 * i / 5)) (8 * i % 5), ((8 * i % 5 : Nat) : Int), outs (bitAt l) (8 * i / 5)⟩
  | 0, _ => rfl
  | i + 1, hi => by
    have hf := bitAt_range l
    rw [foldl_stepA l i (by omega), armor_state l hb i (by omega)]
    have hx : 0 ≤ rd l (i : Int) ∧ rd l (i : Int) ≤ 255 := by rw [rd_nat l i (by omega)]; exact hb _ (List.getElem_mem (by omega))
    have hr := valF_range hf (5 * (8 * i / 5)) (8 * i % 5)
    have hs := pow_small (8 * i % 5) (by omega)
    have V : Go.bits .or .i64 (wrap64 (valF (bitAt l) (5 * (8 * i / 5)) (8 * i % 5) * 256)) (wrap64 (rd l (i : Int))) = valF (bitAt l) (5 * (8 * i / 5)) (8 * i % 5 + 8) := by
      rw [wrap_id (by omega) (by omega), wrap_id (by omega) (by omega), i64_join 8 _ _ (by omega) (by omega) (by omega) (by omega) (by omega) (by omega), valF_add, show 5 * (8 * i / 5) + 8 * i % 5 = 8 * i by omega, valF_byte l hb i (by omega)]
      rfl
    have A := arF_val hf (8 * i / 5) (8 * i % 5 + 8) (by omega) 3 (8 * i % 5 + 8) (8 * i / 5) rfl (Nat.le_refl _) (by omega)
    rw [show 5 * (8 * i / 5) + (8 * i % 5 + 8) = 8 * (i + 1) by omega] at A
    simp only [arS]
    rw [V, show (((8 * i % 5 : Nat) : Int) + 8) = ((8 * i % 5 + 8 : Nat) : Int) by omega, A]
    simp only []
    rw [mask_val _ (by omega)]
    have hr2 := valF_range hf (5 * (8 * i / 5)) (8 * i % 5 + 8)
    have hs2 := pow_small (8 * i % 5 + 8) (by omega)
    rw [i64_mask (8 * (i + 1) % 5) (by omega) _ hr2.1 (by omega)]
    have m := valF_mod hf (5 * (8 * i / 5)) (8 * i % 5 + 8 - 8 * (i + 1) % 5) (8 * (i + 1) % 5)
    rw [show 8 * i % 5 + 8 - 8 * (i + 1) % 5 + 8 * (i + 1) % 5 = 8 * i % 5 + 8 by omega, show 5 * (8 * i / 5) + (8 * i % 5 + 8 - 8 * (i + 1) % 5) = 5 * (8 * (i + 1) / 5) by omega] at m
    rw [m]
theorem armorL_eq (l : List Int) (hb : ∀ x ∈ l, 0 ≤ x ∧ x ≤ 255) : armorL l = outs (bitAt l) ((8 * l.length + 4) / 5) := by
  have hf := bitAt_range l
  have S := armor_state l hb l.length (Nat.le_refl _)
  rw [List.take_length] at S
  unfold armorL
  rw [S]
  simp only []
  by_cases hp : ((8 * l.length % 5 : Nat) : Int) > 0
  · rw [if_pos hp, show (5 - ((8 * l.length % 5 : Nat) : Int)) = ((5 - 8 * l.length % 5 : Nat) : Int) by omega, Int.toNat_natCast, Nat.min_eq_left (by omega)]
    have e := valF_add (bitAt l) (5 * (8 * l.length / 5)) (8 * l.length % 5) (5 - 8 * l.length % 5)
    rw [show 5 * (8 * l.length / 5) + 8 * l.length % 5 = 8 * l.length by omega, valF_none (8 * l.length) _ (fun k hk => by unfold bitAt; rw [if_neg (by omega)]), Int.add_zero, show 8 * l.length % 5 + (5 - 8 * l.length % 5) = 5 by omega] at e
    have hr := valF_range hf (5 * (8 * l.length / 5)) 5
    rw [show ((2 : Int) ^ 5) = 32 by decide] at hr
    rw [← e, wrap_id (by omega) (by omega), chB_eq _ hr.1 (by omega), Int.emod_eq_of_lt hr.1 hr.2, ← outs_succ, show 8 * l.length / 5 + 1 = (8 * l.length + 4) / 5 by omega]
  · rw [if_neg hp, show 8 * l.length / 5 = (8 * l.length + 4) / 5 by omega]
/-! the reference's -/
def letters : ByteArray := ⟨#[48, 49, 50, 51, 52, 53, 54, 55, 56, 57, 97, 98, 99, 100, 101, 102, 103, 104, 105, 106, 107, 108, 109, 110, 111, 112, 113, 114, 115, 116, 117, 118]⟩
def outN (f : Nat → Int) (q : Nat) : List Int := (List.range q).map fun j => bt letters (valF f (5 * j) 5)
theorem outN_succ (f : Nat → Int) (q : Nat) : outN f (q + 1) = outN f q ++ [bt letters (valF f (5 * q) 5)] := by
  unfold outN
  rw [List.range_succ, List.map_append]; rfl
theorem letter_eq : ∀ n : Fin 32, UInt8.ofNat (bt letters ((n.val : Nat) : Int)).toNat = chN ((n.val : Nat) : Int) := by decide
theorem str_eq {f : Nat → Int} (hf : ∀ k, 0 ≤ f k ∧ f k ≤ 1) (q : Nat) : strOfNums (outN f q) = ⟨(outs f q).toArray⟩ := by
  unfold strOfNums outN outs
  rw [List.map_map]
  congr 2
  refine List.map_congr_left fun j _ => ?_
  have hr := valF_range hf (5 * j) 5
  rw [show ((2 : Int) ^ 5) = 32 by decide] at hr
  have z := letter_eq ⟨(valF f (5 * j) 5).toNat, by omega⟩
  rw [show (((valF f (5 * j) 5).toNat : Nat) : Int) = valF f (5 * j) 5 by omega] at z
  exact z
theorem spec_l1 (l : List Int) (hl : l.length ≤ 20000) (hb : ∀ x ∈ l, 0 ≤ x ∧ x ≤ 255) (x3 : List Int) (j : Nat) (h3 : x3.length ≤ 100000) (hj : 5 * j < 8 * l.length) {r : ByteArray}
    (go : Ev (fun k => spec_l2Armor.l0 k l (x3 ++ [bt letters (valF (bitAt l) (5 * j) 5)]) ((5 * (j + 1) : Nat) : Int)) r) :
    ∀ (d m : Nat), 5 = m + d → Ev (fun k => spec_l2Armor.l1 k l x3 ((5 * j : Nat) : Int) (valF (bitAt l) (5 * j) m) ((5 * j + m : Nat) : Int)) r := by
  have hf := bitAt_range l
  have hw : wrap64 ((l.length : Int) * 8) = ((8 * l.length : Nat) : Int) := by rw [wrap_id (by omega) (by omega)]; omega
  have hw5 : wrap64 (((5 * j : Nat) : Int) + 5) = ((5 * (j + 1) : Nat) : Int) := by rw [wrap_id (by omega) (by omega)]; omega
  intro d
  induction d with
  | zero =>
    intro m h
    obtain rfl : m = 5 := by omega
    have hr := valF_range hf (5 * j) 5
    rw [show ((2 : Int) ^ 5) = 32 by decide] at hr
    refine Ev.succ ?_
    simp only [spec_l2Armor.l1]
    rw [hw5]
    refine Ev.no (by omega) ?_
    unfold spec_l2Letters.f
    simp only [Option.bind_some]
    exact Ev.yes hr.1 (Ev.yes (by show _ < ((32 : Nat) : Int); omega) (Ev.yes (by omega) go))
  | succ d ih =>
    intro m h
    have hr := valF_range hf (5 * j) m
    have hs := pow_small m (by omega)
    have z := ih (m + 1) (by omega)
    refine Ev.succ ?_
    simp only [spec_l2Armor.l1]
    rw [hw5, hw, wrap_nat (by omega)]
    refine Ev.yes (by omega) (Ev.ite (fun hk => ?_) fun hk => ?_)
    · have hk : 5 * j + m < 8 * l.length := by omega
      have t1 : wrap64 (Int.tdiv ((5 * j + m : Nat) : Int) 8) = (((5 * j + m) / 8 : Nat) : Int) := by
        rw [Int.tdiv_eq_ediv_of_nonneg (by omega), wrap_id (by omega) (by omega)]; omega
      have t2 : IntKind.u64.wrap (wrap64 (7 - Int.tmod ((5 * j + m : Nat) : Int) 8)) = ((7 - (5 * j + m) % 8 : Nat) : Int) := by
        rw [Int.tmod_eq_emod_of_nonneg (by omega), wrap_id (by omega) (by omega), show (7 - ((5 * j + m : Nat) : Int) % 8) = ((7 - (5 * j + m) % 8 : Nat) : Int) by omega, u64_nat _ (by omega)]
      have hx : 0 ≤ rd l (((5 * j + m) / 8 : Nat) : Int) ∧ rd l (((5 * j + m) / 8 : Nat) : Int) ≤ 255 := by rw [rd_nat l _ (by omega)]; exact hb _ (List.getElem_mem (by omega))
      have hd : 0 ≤ rd l (((5 * j + m) / 8 : Nat) : Int) / 2 ^ (7 - (5 * j + m) % 8) ∧ rd l (((5 * j + m) / 8 : Nat) : Int) / 2 ^ (7 - (5 * j + m) % 8) ≤ 255 :=
        ⟨Int.ediv_nonneg hx.1 (Int.le_of_lt (two_pos _)), Int.le_trans (Int.ediv_le_self _ hx.1) hx.2⟩
      rw [t1, t2]
      refine Ev.yes (by omega) (Ev.yes (by omega) (Ev.yes (by omega) ?_))
      rw [wrap_id (x := rd l _) (by omega) (by omega), shr_nat _ _ (by omega), i64_and1 _ hd.1 (by omega), wrap_id (x := valF _ _ _ * 2) (by omega) (by omega), wrap_id (by omega) (by omega)]
      have e : valF (bitAt l) (5 * j) m * 2 + rd l (((5 * j + m) / 8 : Nat) : Int) / 2 ^ (7 - (5 * j + m) % 8) % 2 = valF (bitAt l) (5 * j) (m + 1) := by
        show _ = valF (bitAt l) (5 * j) m * 2 + bitAt l (5 * j + m)
        unfold bitAt
        rw [if_pos hk]
      rw [e]; exact z
    · have e : valF (bitAt l) (5 * j) m * 2 = valF (bitAt l) (5 * j) (m + 1) := by
        show _ = valF (bitAt l) (5 * j) m * 2 + bitAt l (5 * j + m)
        unfold bitAt
        rw [if_neg (by omega), Int.add_zero]
      rw [wrap_id (x := valF _ _ _ * 2) (by omega) (by omega), e]; exact z
theorem spec_l0 (l : List Int) (hl : l.length ≤ 20000) (hb : ∀ x ∈ l, 0 ≤ x ∧ x ≤ 255) : ∀ (d j : Nat), (8 * l.length + 4) / 5 = j + d → Ev (fun k => spec_l2Armor.l0 k l (outN (bitAt l) j) ((5 * j : Nat) : Int)) (strOfNums (outN (bitAt l) ((8 * l.length + 4) / 5))) := by
  have hw : wrap64 ((l.length : Int) * 8) = ((8 * l.length : Nat) : Int) := by rw [wrap_id (by omega) (by omega)]; omega
  intro d
  induction d with
  | zero =>
    intro j h
    refine Ev.succ ?_
    simp only [spec_l2Armor.l0]
    rw [hw]
    refine Ev.no (by omega) (Ev.some ?_)
    rw [show (8 * l.length + 4) / 5 = j by omega]
  | succ d ih =>
    intro j h
    refine Ev.succ ?_
    simp only [spec_l2Armor.l0]
    rw [hw]
    refine Ev.yes (by omega) ?_
    have z := ih (j + 1) (by omega)
    rw [outN_succ] at z
    exact spec_l1 l hl hb _ j (by simp [outN]; omega) (by omega) z 5 0 rfl
theorem FnExactArmor : laws_FnExactArmor.Pure := by
  intro l _ _ hw
  have hb := wf_u8 hw
  apply Ev.rounds
  unfold laws_FnExactArmor.f
  refine Ev.ite (fun _ => Ev.now _) fun hl => ?_
  have hl : l.length ≤ 1048576 := by omega
  have T := toByteS_ev l hl
  have C : ∃ r, Ev (fun k => spec_Armor.f k l) r ∧ impl_Armor.f l = some r := by
    unfold spec_Armor.f impl_Armor.f
    by_cases h : (l.length : Int) > 20000
    · exact ⟨_, Ev.yes h (Ev.now _), by rw [if_pos h]⟩
    · refine ⟨_, Ev.no h (Ev.tail (spec_l0 l (by omega) hb ((8 * l.length + 4) / 5) 0 (by omega))), ?_⟩
      rw [if_neg h, armorL_eq l hb, str_eq (bitAt_range l)]
  obtain ⟨r, S, I⟩ := C
  exact T.bind (S.bind (T.bind (Ev.call I (Ev.yes rfl (T.bind ((eqByteS_self l hl).bind (Ev.yes rfl (Ev.now _))))))))

end Go.Proofs.Yticgmgbbdicgdaa.Pure
