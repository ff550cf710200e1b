/- The program's Unarmor answers what the reference's answers, for every text.
Conditions: none but the row's own. -/
import Derived.Test.YtmnlgdmojbhfcaaPFnExactUnarmorx3
namespace Go.Proofs.Ytmnlgdmojbhfcaa.Pure
open Go.RowKit Go.Proofs.Ytmnlgdmojbhfcaa.PFnExactUnarmor Go.Proofs.YtmnlgdmojbhfcaaW.PrintWords Go.Proofs.YtmnlgdmojbhfcaaW.PrintLast
set_option linter.unusedVariables false
set_option linter.unusedSimpArgs false

/-! ### from some number of rounds on -/
theorem Ev.yes {α : Type} {c : Prop} {inst : Decidable c} {A B : Nat → Option α} {r : α} (h : c) (k : Ev A r) : Ev (fun n => @ite _ c inst (A n) (B n)) r :=
  k.congr fun n => if_pos h
theorem Ev.no {α : Type} {c : Prop} {inst : Decidable c} {A B : Nat → Option α} {r : α} (h : ¬ c) (k : Ev B r) : Ev (fun n => @ite _ c inst (A n) (B n)) r :=
  k.congr fun n => if_neg h
theorem Ev.ite {α : Type} {c : Prop} {inst : Decidable c} {A B : Nat → Option α} {r : α} (h : c → Ev A r) (k : ¬ c → Ev B r) : Ev (fun n => @ite _ c inst (A n) (B n)) r := by
  by_cases e : c
  · exact Ev.yes e (h e)
  · exact Ev.no e (k e)
theorem Ev.some {α : Type} {a r : α} (h : a = r) : Ev (fun _ => some a) r := h ▸ Ev.now a
/-- A callee without rounds. -/
theorem Ev.call {α β : Type} {g : Option α} {f : Nat → α → Option β} {a : α} {r : β} (h : g = Option.some a) (k : Ev (fun n => f n a) r) : Ev (fun n => g.bind (f n)) r := by
  refine k.congr fun n => ?_
  rw [h]; rfl
theorem Ev.tail {α : Type} {g : Nat → Option α} {r : α} (h : Ev g r) : Ev (fun n => (g n).bind fun t => Option.some t) r := h.bind (Ev.now r)
theorem Ev.succ {α : Type} {g : Nat → Option α} {r : α} (h : Ev (fun k => g (k + 1)) r) : Ev g r := Ev.step (fun _ => rfl) h
theorem wrap_nat {i : Nat} (h : i < 9000000000000000000) : wrap64 ((i : Int) + 1) = ((i + 1 : Nat) : Int) := by unfold wrap64; omega
theorem wrap_id {x : Int} (h0 : -9223372036854775808 ≤ x) (h1 : x ≤ 9223372036854775807) : wrap64 x = x := by unfold wrap64; omega
theorem bt_nat (s : ByteArray) (i : Nat) (h : i < s.size) : bt s (i : Int) = (bytesOf s)[i]'(by rw [bytesOf_length]; exact h) := by
  have := rd_bytesOf s (i : Int)
  rw [← this]; unfold rd; rw [Int.toNat_natCast, List.getD_eq_getElem?_getD, List.getElem?_eq_getElem (by rw [bytesOf_length]; exact h)]; rfl
theorem drop_bytes (s : ByteArray) (i : Nat) (h : i < s.size) : (bytesOf s).drop i = bt s (i : Int) :: (bytesOf s).drop (i + 1) := by
  rw [bt_nat s i h]; exact List.drop_eq_getElem_cons (by rw [bytesOf_length]; exact h)
theorem bytes_range (s : ByteArray) : ∀ b ∈ bytesOf s, 0 ≤ b ∧ b ≤ 255 := by
  intro b hb
  unfold bytesOf at hb
  obtain ⟨x, _, rfl⟩ := List.mem_map.1 hb
  have := x.toNat_lt
  omega
/-- A loop over a string that asks each byte. -/
theorem loop_all {l : Nat → Int → Option Bool} {p : Int → Bool} {s : ByteArray}
    (yes : ∀ i : Nat, i < s.size → p (bt s i) = true → ∀ r, Ev (fun k => l k ((i + 1 : Nat) : Int)) r → Ev (fun k => l k (i : Int)) r)
    (no : ∀ i : Nat, i < s.size → p (bt s i) = false → Ev (fun k => l k (i : Int)) false)
    (done : Ev (fun k => l k (s.size : Int)) true) :
    ∀ (d i : Nat), s.size = i + d → Ev (fun k => l k (i : Int)) (((bytesOf s).drop i).all p) := by
  intro d
  induction d with
  | zero =>
    intro i h
    obtain rfl : i = s.size := by omega
    rw [List.drop_eq_nil_of_le (by rw [bytesOf_length]; exact Nat.le_refl _)]
    exact done
  | succ d ih =>
    intro i h
    rw [drop_bytes s i (by omega), List.all_cons]
    cases hp : p (bt s i) with
    | true => rw [Bool.true_and]; exact yes i (by omega) hp _ (ih (i + 1) (by omega))
    | false => rw [Bool.false_and]; exact no i (by omega) hp
/-! ### lists of numbers, and what the law's own functions do with bytes -/
theorem rd_nat (l : List Int) (i : Nat) (h : i < l.length) : rd l (i : Int) = l[i] := by
  unfold rd; rw [Int.toNat_natCast, List.getD_eq_getElem?_getD, List.getElem?_eq_getElem h]; rfl
theorem set_step {β : Type} (xs : List β) (z : β) (i : Nat) (h : i < xs.length) :
    (xs.take i ++ List.replicate (xs.length - i) z).set i xs[i] = xs.take (i + 1) ++ List.replicate (xs.length - (i + 1)) z := by
  obtain ⟨d, hd⟩ : ∃ d, xs.length - i = d + 1 := ⟨xs.length - i - 1, by omega⟩
  rw [hd, show xs.length - (i + 1) = d by omega, List.replicate_succ, List.set_append_right _ _ (by simp; omega)]
  rw [show i - (xs.take i).length = 0 by simp; omega, List.set_cons_zero, List.take_succ_eq_append_getElem h, List.append_assoc]; rfl
theorem fill_len {β : Type} (xs : List β) (z : β) (i : Nat) (h : i ≤ xs.length) : (xs.take i ++ List.replicate (xs.length - i) z).length = xs.length := by simp; omega
/-! ### bits of whole numbers -/
theorem wraps_i64 (n : Int) (h₀ : 0 ≤ n) (h₁ : n < 2 ^ 63) : IntKind.i64.wrap n = n := by rw [IntKind.wrap_i64]; omega
theorem i64_mask (j : Nat) (hj : j ≤ 63) (x : Int) (h₀ : 0 ≤ x) (h₁ : x < 9223372036854775808) : Go.bits .and .i64 x (2 ^ j - 1) = x % 2 ^ j :=
  bits_mask .i64 63 (by decide) wraps_i64 j hj x h₀ (by omega)
theorem i64_and1 (x : Int) (h₀ : 0 ≤ x) (h₁ : x < 9223372036854775808) : Go.bits .and .i64 x 1 = x % 2 := i64_mask 1 (by decide) x h₀ h₁
theorem i64_join (j : Nat) (x y : Int) (hx₀ : 0 ≤ x) (hx : x % 2 ^ j = 0) (hx₁ : x < 9223372036854775808) (hy₀ : 0 ≤ y) (hy : y < 2 ^ j) (hy₁ : y < 9223372036854775808) : Go.bits .or .i64 x y = x + y :=
  bits_join .i64 63 (by decide) wraps_i64 j x y hx₀ hx (by omega) hy₀ hy (by omega)
theorem shr_nat (x : Int) (i : Nat) (h : i ≤ 64) : shr .i64 x (i : Int) = x / 2 ^ i := by
  unfold shr
  rw [Int.toNat_natCast, Nat.min_eq_left (by simpa [IntKind.bits] using h)]
theorem u64_nat (i : Nat) (h : i < 9000000000000000000) : IntKind.u64.wrap (i : Int) = (i : Int) := by
  simp [IntKind.wrap, IntKind.bits, IntKind.signed]; omega
theorem wf_u8 {l : List Int} (h : ∀ x ∈ l, (Lit.int .u8 x).wf = true) : ∀ x ∈ l, 0 ≤ x ∧ x ≤ 255 := by
  intro x hx
  have z := h x hx
  simp [Lit.wf, IntKind.min, IntKind.max, IntKind.signed, IntKind.bits] at z
  omega
def bitAt (l : List Int) (k : Nat) : Int := if k < 8 * l.length then rd l ((k / 8 : Nat) : Int) / 2 ^ (7 - k % 8) % 2 else 0
def valF (f : Nat → Int) (p : Nat) : Nat → Int
  | 0 => 0
  | m + 1 => valF f p m * 2 + f (p + m)
theorem valF_add (f : Nat → Int) (p m : Nat) : ∀ n, valF f p (m + n) = valF f p m * 2 ^ n + valF f (p + m) n
  | 0 => by simp [valF]
  | n + 1 => by
    rw [← Nat.add_assoc]
    show valF f p (m + n) * 2 + f (p + (m + n)) = valF f p m * 2 ^ (n + 1) + (valF f (p + m) n * 2 + f (p + m + n))
    rw [valF_add f p m n, Int.pow_succ, Int.add_mul, Int.mul_assoc, Int.add_assoc, Nat.add_assoc]
theorem valF_range {f : Nat → Int} (hf : ∀ k, 0 ≤ f k ∧ f k ≤ 1) (p : Nat) : ∀ n, 0 ≤ valF f p n ∧ valF f p n < 2 ^ n
  | 0 => ⟨Int.le_refl _, (show (0 : Int) < 2 ^ 0 by decide)⟩
  | n + 1 => by
    have h := valF_range hf p n
    have g := hf (p + n)
    rw [Int.pow_succ]
    show 0 ≤ valF f p n * 2 + f (p + n) ∧ valF f p n * 2 + f (p + n) < 2 ^ n * 2
    omega
theorem two_pos (n : Nat) : (0 : Int) < 2 ^ n := Int.pow_pos (by decide)
theorem valF_div {f : Nat → Int} (hf : ∀ k, 0 ≤ f k ∧ f k ≤ 1) (p m n : Nat) : valF f p (m + n) / 2 ^ n = valF f p m := by
  have h := valF_range hf (p + m) n
  have g := two_pos n
  rw [valF_add, Int.add_comm, Int.add_mul_ediv_right _ _ (by omega), Int.ediv_eq_zero_of_lt h.1 h.2, Int.zero_add]
theorem valF_mod {f : Nat → Int} (hf : ∀ k, 0 ≤ f k ∧ f k ≤ 1) (p m n : Nat) : valF f p (m + n) % 2 ^ n = valF f (p + m) n := by
  have h := valF_range hf (p + m) n
  rw [valF_add, Int.add_comm, Int.add_mul_emod_self_right, Int.emod_eq_of_lt h.1 h.2]
theorem valF_none {f : Nat → Int} (p : Nat) : ∀ n, (∀ k, p ≤ k → f k = 0) → valF f p n = 0
  | 0, _ => rfl
  | n + 1, h => by
    show valF f p n * 2 + f (p + n) = 0
    rw [valF_none p n h, h _ (by omega)]; rfl
theorem bitAt_range (l : List Int) (k : Nat) : 0 ≤ bitAt l k ∧ bitAt l k ≤ 1 := by
  unfold bitAt
  split <;> omega
theorem bitAt_eq (l : List Int) (i j : Nat) (hi : i < l.length) (hj : j < 8) : bitAt l (8 * i + j) = rd l (i : Int) / 2 ^ (7 - j) % 2 := by
  unfold bitAt
  rw [if_pos (by omega), show (8 * i + j) / 8 = i by omega, show (8 * i + j) % 8 = j by omega]
theorem valF_byte (l : List Int) (hb : ∀ x ∈ l, 0 ≤ x ∧ x ≤ 255) (i : Nat) (hi : i < l.length) : valF (bitAt l) (8 * i) 8 = rd l (i : Int) := by
  have hx : 0 ≤ rd l (i : Int) ∧ rd l (i : Int) ≤ 255 := by rw [rd_nat l i hi]; exact hb _ (List.getElem_mem hi)
  simp only [valF]
  rw [bitAt_eq l i 0 hi (by omega), bitAt_eq l i 1 hi (by omega), bitAt_eq l i 2 hi (by omega), bitAt_eq l i 3 hi (by omega), bitAt_eq l i 4 hi (by omega), bitAt_eq l i 5 hi (by omega), bitAt_eq l i 6 hi (by omega), bitAt_eq l i 7 hi (by omega)]
  rw [show ((2 : Int) ^ (7 - 0)) = 128 by decide, show ((2 : Int) ^ (7 - 1)) = 64 by decide, show ((2 : Int) ^ (7 - 2)) = 32 by decide, show ((2 : Int) ^ (7 - 3)) = 16 by decide, show ((2 : Int) ^ (7 - 4)) = 8 by decide, show ((2 : Int) ^ (7 - 5)) = 4 by decide, show ((2 : Int) ^ (7 - 6)) = 2 by decide, show ((2 : Int) ^ (7 - 7)) = 1 by decide]
  omega
def chN (n : Int) : UInt8 := yarm.data.getD n.toNat 0
theorem chB_eq (x : Int) (h0 : 0 ≤ x) (h1 : x < 9223372036854775808) : chB x = chN (x % 32) := by
  have e : Go.bits .and .i64 x 31 = x % 32 := i64_mask 5 (by decide) x h0 h1
  unfold chB chN
  have hlt : (x % 32).toNat < yarm.data.size := by show _ < 32; omega
  rw [← Array.getElem_eq_getD (h := hlt)]
  simp only [e]
  rfl
def outs (f : Nat → Int) (q : Nat) : List UInt8 := (List.range q).map fun j => chN (valF f (5 * j) 5)
theorem outs_succ (f : Nat → Int) (q : Nat) : outs f (q + 1) = outs f q ++ [chN (valF f (5 * q) 5)] := by
  unfold outs
  rw [List.range_succ, List.map_append]; rfl
theorem pow_small (n : Nat) (h : n ≤ 12) : (2 : Int) ^ n ≤ 4096 := by
  have : (2 : Int) ^ n ≤ 2 ^ 12 := by
    have z := Nat.pow_le_pow_right (show 0 < 2 by decide) h
    exact_mod_cast z
  exact this
theorem arF_val {f : Nat → Int} (hf : ∀ k, 0 ≤ f k ∧ f k ≤ 1) (q0 B : Nat) (hB : B ≤ 12) : ∀ (n b' q' : Nat), 5 * q' + b' = 5 * q0 + B → q0 ≤ q' → b' < 5 * n + 5 →
    arF (valF f (5 * q0) B) n (b' : Int) (outs f q') = ((((5 * q0 + B) % 5 : Nat) : Int), outs f ((5 * q0 + B) / 5)) := by
  intro n
  induction n with
  | zero =>
    intro b' q' he hq hb
    rw [arF_stop _ _ _ _ (by omega), show (5 * q0 + B) % 5 = b' by omega, show (5 * q0 + B) / 5 = q' by omega]
  | succ n ih =>
    intro b' q' he hq hb
    by_cases h5 : 5 ≤ b'
    · rw [arF_step _ _ _ _ (by omega), show ((b' : Int) - 5) = ((b' - 5 : Nat) : Int) by omega, Int.toNat_natCast, Nat.min_eq_left (by omega)]
      have eB : B = (5 * q' - 5 * q0 + 5) + (b' - 5) := by omega
      have e : valF f (5 * q0) B / 2 ^ (b' - 5) = valF f (5 * q0) (5 * q' - 5 * q0 + 5) := by
        conv => lhs; rw [eB]
        exact valF_div hf _ _ _
      have hr := valF_range hf (5 * q0) (5 * q' - 5 * q0 + 5)
      have hs := pow_small (5 * q' - 5 * q0 + 5) (by omega)
      rw [e, chB_eq _ hr.1 (by omega)]
      have m := valF_mod hf (5 * q0) (5 * q' - 5 * q0) 5
      rw [show 5 * q0 + (5 * q' - 5 * q0) = 5 * q' by omega] at m
      rw [show valF f (5 * q0) (5 * q' - 5 * q0 + 5) % 32 = valF f (5 * q') 5 from m, ← outs_succ]
      exact ih (b' - 5) (q' + 1) (by omega) (by omega) (by omega)
    · rw [arF_stop _ _ _ _ (by omega), show (5 * q0 + B) % 5 = b' by omega, show (5 * q0 + B) / 5 = q' by omega]
theorem mask_val (b : Nat) (h : b < 5) : wrap64 (wrap64 (2 ^ min ((b : Int)).toNat 64) - 1) = 2 ^ b - 1 := by
  rw [Int.toNat_natCast]
  have e : b = 0 ∨ b = 1 ∨ b = 2 ∨ b = 3 ∨ b = 4 := by omega
  rcases e with rfl | rfl | rfl | rfl | rfl <;> (unfold wrap64; decide)
theorem armor_state (l : List Int) (hb : ∀ x ∈ l, 0 ≤ x ∧ x ≤ 255) : ∀ i, i ≤ l.length → (l.take i).foldl arS ⟨0, 0, []⟩ = ⟨valF (bitAt l) (5 * (8 * i / 5)) (8 * i % 5), ((8 * i % 5 : Nat) : Int), outs (bitAt l) (8 * i / 5)⟩
  | 0, _ => rfl
  | i + 1, hi => by
    have hf := bitAt_range l
    rw [foldl_stepA l i (by omega), armor_state l hb i (by omega)]
    have hx : 0 ≤ rd l (i : Int) ∧ rd l (i : Int) ≤ 255 := by rw [rd_nat l i (by omega)]; exact hb _ (List.getElem_mem (by omega))
    have hr := valF_range hf (5 * (8 * i / 5)) (8 * i % 5)
    have hs := pow_small (8 * i % 5) (by omega)
    have V : Go.bits .or .i64 (wrap64 (valF (bitAt l) (5 * (8 * i / 5)) (8 * i % 5) * 256)) (wrap64 (rd l (i : Int))) = valF (bitAt l) (5 * (8 * i / 5)) (8 * i % 5 + 8) := by
      rw [wrap_id (by omega) (by omega), wrap_id (by omega) (by omega), i64_join 8 _ _ (by omega) (by omega) (by omega) (by omega) (by omega) (by omega), valF_add, show 5 * (8 * i / 5) + 8 * i % 5 = 8 * i by omega, valF_byte l hb i (by omega)]
      rfl
    have A := arF_val hf (8 * i / 5) (8 * i % 5 + 8) (by omega) 3 (8 * i % 5 + 8) (8 * i / 5) rfl (Nat.le_refl _) (by omega)
    rw [show 5 * (8 * i / 5) + (8 * i % 5 + 8) = 8 * (i + 1) by omega] at A
    simp only [arS]
    rw [V, show (((8 * i % 5 : Nat) : Int) + 8) = ((8 * i % 5 + 8 : Nat) : Int) by omega, A]
    simp only []
    rw [mask_val _ (by omega)]
    have hr2 := valF_range hf (5 * (8 * i / 5)) (8 * i % 5 + 8)
    have hs2 := pow_small (8 * i % 5 + 8) (by omega)
    rw [i64_mask (8 * (i + 1) % 5) (by omega) _ hr2.1 (by omega)]
    have m := valF_mod hf (5 * (8 * i / 5)) (8 * i % 5 + 8 - 8 * (i + 1) % 5) (8 * (i + 1) % 5)
    rw [show 8 * i % 5 + 8 - 8 * (i + 1) % 5 + 8 * (i + 1) % 5 = 8 * i % 5 + 8 by omega, show 5 * (8 * i / 5) + (8 * i % 5 + 8 - 8 * (i + 1) % 5) = 5 * (8 * (i + 1) / 5) by omega] at m
    rw [m]
theorem armorL_eq (l : List Int) (hb : ∀ x ∈ l, 0 ≤ x ∧ x ≤ 255) : armorL l = outs (bitAt l) ((8 * l.length + 4) / 5) := by
  have hf := bitAt_range l
  have S := armor_state l hb l.length (Nat.le_refl _)
  rw [List.take_length] at S
  unfold armorL
  rw [S]
  simp only []
  by_cases hp : ((8 * l.length % 5 : Nat) : Int) > 0
  · rw [if_pos hp, show (5 - ((8 * l.length % 5 : Nat) : Int)) = ((5 - 8 * l.length % 5 : Nat) : Int) by omega, Int.toNat_natCast, Nat.min_eq_left (by omega)]
    have e := valF_add (bitAt l) (5 * (8 * l.length / 5)) (8 * l.length % 5) (5 - 8 * l.length % 5)
    rw [show 5 * (8 * l.length / 5) + 8 * l.length % 5 = 8 * l.length by omega, valF_none (8 * l.length) _ (fun k hk => by unfold bitAt; rw [if_neg (by omega)]), Int.add_zero, show 8 * l.length % 5 + (5 - 8 * l.length % 5) = 5 by omega] at e
    have hr := valF_range hf (5 * (8 * l.length / 5)) 5
    rw [show ((2 : Int) ^ 5) = 32 by decide] at hr
    rw [← e, wrap_id (by omega) (by omega), chB_eq _ hr.1 (by omega), Int.emod_eq_of_lt hr.1 hr.2, ← outs_succ, show 8 * l.length / 5 + 1 = (8 * l.length + 4) / 5 by omega]
  · rw [if_neg hp, show 8 * l.length / 5 = (8 * l.length + 4) / 5 by omega]
/-! the reference's -/
def letters : ByteArray := ⟨#[48, 49, 50, 51, 52, 53, 54, 55, 56, 57, 97, 98, 99, 100, 101, 102, 103, 104, 105, 106, 107, 108, 109, 110, 111, 112, 113, 114, 115, 116, 117, 118]⟩
def outN (f : Nat → Int) (q : Nat) : List Int := (List.range q).map fun j => bt letters (valF f (5 * j) 5)
theorem outN_succ (f : Nat → Int) (q : Nat) : outN f (q + 1) = outN f q ++ [bt letters (valF f (5 * q) 5)] := by
  unfold outN
  rw [List.range_succ, List.map_append]; rfl
theorem letter_eq : ∀ n : Fin 32, UInt8.ofNat (bt letters ((n.val : Nat) : Int)).toNat = chN ((n.val : Nat) : Int) := by decide
theorem str_eq {f : Nat → Int} (hf : ∀ k, 0 ≤ f k ∧ f k ≤ 1) (q : Nat) : strOfNums (outN f q) = ⟨(outs f q).toArray⟩ := by
  unfold strOfNums outN outs
  rw [List.map_map]
  congr 2
  refine List.map_congr_left fun j _ => ?_
  have hr := valF_range hf (5 * j) 5
  rw [show ((2 : Int) ^ 5) = 32 by decide] at hr
  have z := letter_eq ⟨(valF f (5 * j) 5).toNat, by omega⟩
  rw [show (((valF f (5 * j) 5).toNat : Nat) : Int) = valF f (5 * j) 5 by omega] at z
  exact z
theorem spec_l1 (l : List Int) (hl : l.length ≤ 20000) (hb : ∀ x ∈ l, 0 ≤ x ∧ x ≤ 255) (x3 : List Int) (j : Nat) (h3 : x3.length ≤ 100000) (hj : 5 * j < 8 * l.length) {r : ByteArray}
    (go : Ev (fun k => spec_l2Armor.l0 k l (x3 ++ [bt letters (valF (bitAt l) (5 * j) 5)]) ((5 * (j + 1) : Nat) : Int)) r) :
    ∀ (d m : Nat), 5 = m + d → Ev (fun k => spec_l2Armor.l1 k l x3 ((5 * j : Nat) : Int) (valF (bitAt l) (5 * j) m) ((5 * j + m : Nat) : Int)) r := by
  have hf := bitAt_range l
  have hw : wrap64 ((l.length : Int) * 8) = ((8 * l.length : Nat) : Int) := by rw [wrap_id (by omega) (by omega)]; omega
  have hw5 : wrap64 (((5 * j : Nat) : Int) + 5) = ((5 * (j + 1) : Nat) : Int) := by rw [wrap_id (by omega) (by omega)]; omega
  intro d
  induction d with
  | zero =>
    intro m h
    obtain rfl : m = 5 := by omega
    have hr := valF_range hf (5 * j) 5
    rw [show ((2 : Int) ^ 5) = 32 by decide] at hr
    refine Ev.succ ?_
    simp only [spec_l2Armor.l1]
    rw [hw5]
    refine Ev.no (by omega) ?_
    unfold spec_l2Letters.f
    simp only [Option.bind_some]
    exact Ev.yes hr.1 (Ev.yes (by show _ < ((32 : Nat) : Int); omega) (Ev.yes (by omega) go))
  | succ d ih =>
    intro m h
    have hr := valF_range hf (5 * j) m
    have hs := pow_small m (by omega)
    have z := ih (m + 1) (by omega)
    refine Ev.succ ?_
    simp only [spec_l2Armor.l1]
    rw [hw5, hw, wrap_nat (by omega)]
    refine Ev.yes (by omega) (Ev.ite (fun hk => ?_) fun hk => ?_)
    · have hk : 5 * j + m < 8 * l.length := by omega
      have t1 : wrap64 (Int.tdiv ((5 * j + m : Nat) : Int) 8) = (((5 * j + m) / 8 : Nat) : Int) := by
        rw [Int.tdiv_eq_ediv_of_nonneg (by omega), wrap_id (by omega) (by omega)]; omega
      have t2 : IntKind.u64.wrap (wrap64 (7 - Int.tmod ((5 * j + m : Nat) : Int) 8)) = ((7 - (5 * j + m) % 8 : Nat) : Int) := by
        rw [Int.tmod_eq_emod_of_nonneg (by omega), wrap_id (by omega) (by omega), show (7 - ((5 * j + m : Nat) : Int) % 8) = ((7 - (5 * j + m) % 8 : Nat) : Int) by omega, u64_nat _ (by omega)]
      have hx : 0 ≤ rd l (((5 * j + m) / 8 : Nat) : Int) ∧ rd l (((5 * j + m) / 8 : Nat) : Int) ≤ 255 := by rw [rd_nat l _ (by omega)]; exact hb _ (List.getElem_mem (by omega))
      have hd : 0 ≤ rd l (((5 * j + m) / 8 : Nat) : Int) / 2 ^ (7 - (5 * j + m) % 8) ∧ rd l (((5 * j + m) / 8 : Nat) : Int) / 2 ^ (7 - (5 * j + m) % 8) ≤ 255 :=
        ⟨Int.ediv_nonneg hx.1 (Int.le_of_lt (two_pos _)), Int.le_trans (Int.ediv_le_self _ hx.1) hx.2⟩
      rw [t1, t2]
      refine Ev.yes (by omega) (Ev.yes (by omega) (Ev.yes (by omega) ?_))
      rw [wrap_id (x := rd l _) (by omega) (by omega), shr_nat _ _ (by omega), i64_and1 _ hd.1 (by omega), wrap_id (x := valF _ _ _ * 2) (by omega) (by omega), wrap_id (by omega) (by omega)]
      have e : valF (bitAt l) (5 * j) m * 2 + rd l (((5 * j + m) / 8 : Nat) : Int) / 2 ^ (7 - (5 * j + m) % 8) % 2 = valF (bitAt l) (5 * j) (m + 1) := by
        show _ = valF (bitAt l) (5 * j) m * 2 + bitAt l (5 * j + m)
        unfold bitAt
        rw [if_pos hk]
      rw [e]; exact z
    · have e : valF (bitAt l) (5 * j) m * 2 = valF (bitAt l) (5 * j) (m + 1) := by
        show _ = valF (bitAt l) (5 * j) m * 2 + bitAt l (5 * j + m)
        unfold bitAt
        rw [if_neg (by omega), Int.add_zero]
      rw [wrap_id (x := valF _ _ _ * 2) (by omega) (by omega), e]; exact z
theorem spec_l0 (l : List Int) (hl : l.length ≤ 20000) (hb : ∀ x ∈ l, 0 ≤ x ∧ x ≤ 255) : ∀ (d j : Nat), (8 * l.length + 4) / 5 = j + d → Ev (fun k => spec_l2Armor.l0 k l (outN (bitAt l) j) ((5 * j : Nat) : Int)) (strOfNums (outN (bitAt l) ((8 * l.length + 4) / 5))) := by
  have hw : wrap64 ((l.length : Int) * 8) = ((8 * l.length : Nat) : Int) := by rw [wrap_id (by omega) (by omega)]; omega
  intro d
  induction d with
  | zero =>
    intro j h
    refine Ev.succ ?_
    simp only [spec_l2Armor.l0]
    rw [hw]
    refine Ev.no (by omega) (Ev.some ?_)
    rw [show (8 * l.length + 4) / 5 = j by omega]
  | succ d ih =>
    intro j h
    refine Ev.succ ?_
    simp only [spec_l2Armor.l0]
    rw [hw]
    refine Ev.yes (by omega) ?_
    have z := ih (j + 1) (by omega)
    rw [outN_succ] at z
    exact spec_l1 l hl hb _ j (by simp [outN]; omega) (by omega) z 5 0 rfl
theorem eqByteS_l0 (a b : List Int) (hl : a.length ≤ 1048576) (hab : a.length = b.length) : ∀ (d i : Nat), a.length = i + d → Ev (fun k => laws_eqByteS.l0 k a b (i : Int)) (decide (a.drop i = b.drop i)) := by
  intro d
  induction d with
  | zero =>
    intro i h
    refine Ev.succ ?_
    simp only [laws_eqByteS.l0]
    refine Ev.no (by omega) (Ev.some ?_)
    rw [List.drop_eq_nil_of_le (by omega), List.drop_eq_nil_of_le (by omega)]; rfl
  | succ d ih =>
    intro i h
    refine Ev.succ ?_
    simp only [laws_eqByteS.l0]
    refine Ev.yes (by omega) (Ev.yes (by omega) (Ev.yes (by omega) ?_))
    have z := ih (i + 1) (by omega)
    rw [rd_nat a i (by omega), rd_nat b i (by omega), wrap_nat (by omega)]
    rw [List.drop_eq_getElem_cons (show i < a.length by omega), List.drop_eq_getElem_cons (show i < b.length by omega)]
    refine Ev.ite (fun e => ?_) (fun e => Ev.some ?_)
    · have : decide (a[i] :: a.drop (i + 1) = b[i] :: b.drop (i + 1)) = decide (a.drop (i + 1) = b.drop (i + 1)) := by
        rw [decide_eq_decide]
        exact ⟨fun h => (List.cons.inj h).2, fun h => by rw [e, h]⟩
      rw [this]; exact z
    · rw [eq_comm, decide_eq_false_iff_not]; exact fun h => e (List.cons.inj h).1
theorem eqByteS_ev (a b : List Int) (hl : a.length ≤ 1048576) : Ev (fun k => laws_eqByteS.f k a b) (decide (a = b)) := by
  unfold laws_eqByteS.f
  refine Ev.ite (fun h => ?_) (fun h => Ev.some ?_)
  · exact eqByteS_l0 a b hl (by omega) a.length 0 (by omega)
  · rw [eq_comm, decide_eq_false_iff_not]; intro e; exact h (by rw [e])
theorem eqByteS_self (a : List Int) (hl : a.length ≤ 1048576) : Ev (fun k => laws_eqByteS.f k a a) true := by
  have h := eqByteS_ev a a hl; rwa [decide_eq_true rfl] at h
def marks (m n : Nat) : List Int := (List.range n).map fun i => ((m + i : Nat) : Int) % 256
theorem marks_len (m n : Nat) : (marks m n).length = n := by simp [marks]
theorem marks_get (m n i : Nat) (h : i < n) : (marks m n)[i]'(by rw [marks_len]; exact h) = ((m + i : Nat) : Int) % 256 := by simp [marks]
theorem markByteS_l0 (l : List Int) (m : Nat) (hm : m ≤ 9000000) (hl : l.length ≤ 1048576) : ∀ (d i : Nat), l.length = i + d →
    Ev (fun k => laws_markByteS.l0 k ((marks m l.length).take i ++ l.drop i) ((m + i : Nat) : Int) (i : Int)) (((m + l.length : Nat) : Int), marks m l.length) := by
  intro d
  induction d with
  | zero =>
    intro i h
    refine Ev.succ ?_
    simp only [laws_markByteS.l0]
    refine Ev.no (by simp [marks_len]; omega) (Ev.some ?_)
    obtain rfl : i = l.length := by omega
    rw [List.drop_length, List.append_nil, List.take_of_length_le (by rw [marks_len]; exact Nat.le_refl _)]
  | succ d ih =>
    intro i h
    refine Ev.succ ?_
    simp only [laws_markByteS.l0]
    refine Ev.yes (by simp [marks_len]; omega) (Ev.yes (by omega) ?_)
    have z := ih (i + 1) (by omega)
    have e1 : ((marks m l.length).take i ++ l.drop i).set i (((m + i : Nat) : Int) % 256) = (marks m l.length).take (i + 1) ++ l.drop (i + 1) := by
      rw [List.set_append_right _ _ (by simp [marks_len]; omega), show i - ((marks m l.length).take i).length = 0 by simp [marks_len]; omega]
      rw [List.drop_eq_getElem_cons (show i < l.length by omega), List.set_cons_zero, List.take_succ_eq_append_getElem (by rw [marks_len]; omega), marks_get _ _ _ (by omega), List.append_assoc]; rfl
    rw [Int.toNat_natCast, e1, wrap_nat (show m + i < 9000000000000000000 by omega), wrap_nat (show i < 9000000000000000000 by omega)]
    exact z
theorem markByteS_ev (l : List Int) (m : Nat) (hm : m ≤ 9000000) (hl : l.length ≤ 1048576) : Ev (fun k => laws_markByteS.f k l (m : Int)) (((m + l.length : Nat) : Int), marks m l.length) := by
  unfold laws_markByteS.f
  exact markByteS_l0 l m hm hl l.length 0 (by omega)
theorem heldByteS_l0 (m n : Nat) (hm : m ≤ 9000000) (hl : n ≤ 1048576) : ∀ (d i : Nat), n = i + d → Ev (fun k => laws_heldByteS.l0 k (marks m n) ((m + i : Nat) : Int) (i : Int)) ((m + n : Nat) : Int) := by
  intro d
  induction d with
  | zero =>
    intro i h
    refine Ev.succ ?_
    simp only [laws_heldByteS.l0]
    refine Ev.no (by rw [marks_len]; omega) (Ev.some ?_)
    rw [h]; rfl
  | succ d ih =>
    intro i h
    refine Ev.succ ?_
    simp only [laws_heldByteS.l0]
    refine Ev.yes (by rw [marks_len]; omega) (Ev.yes (by omega) (Ev.yes ?_ ?_))
    · rw [rd_nat _ _ (by rw [marks_len]; omega), marks_get _ _ _ (by omega)]
    · rw [wrap_nat (show m + i < 9000000000000000000 by omega), wrap_nat (show i < 9000000000000000000 by omega)]
      exact ih (i + 1) (by omega)
theorem heldByteS_ev (m n : Nat) (hm : m ≤ 9000000) (hl : n ≤ 1048576) : Ev (fun k => laws_heldByteS.f k (marks m n) (m : Int)) ((m + n : Nat) : Int) := by
  unfold laws_heldByteS.f
  exact heldByteS_l0 m n hm hl n 0 (by omega)
/-! ### the program's Unarmor -/
def lt5 (c : Int) : Int := Lib.indexByte letters.data.toList c.toNat.toUInt8
theorem lt5_range : ∀ c : Fin 256, -1 ≤ lt5 ((c.val : Nat) : Int) ∧ lt5 ((c.val : Nat) : Int) < 32 := by decide +kernel
theorem lt5_at (s : ByteArray) (i : Nat) : -1 ≤ lt5 (bt s (i : Int)) ∧ lt5 (bt s (i : Int)) < 32 := by
  have h := bt_range s (i : Int)
  have z := lt5_range ⟨(bt s (i : Int)).toNat, by omega⟩
  rw [show (((bt s (i : Int)).toNat : Nat) : Int) = bt s (i : Int) by omega] at z
  exact z
def gT (s : ByteArray) (k : Nat) : Int := if k < 5 * s.size then lt5 (bt s ((k / 5 : Nat) : Int)) / 2 ^ (4 - k % 5) % 2 else 0
theorem gT_range (s : ByteArray) (k : Nat) : 0 ≤ gT s k ∧ gT s k ≤ 1 := by
  unfold gT
  split <;> omega
theorem gT_eq (s : ByteArray) (i j : Nat) (hi : i < s.size) (hj : j < 5) : gT s (5 * i + j) = lt5 (bt s (i : Int)) / 2 ^ (4 - j) % 2 := by
  unfold gT
  rw [if_pos (by omega), show (5 * i + j) / 5 = i by omega, show (5 * i + j) % 5 = j by omega]
theorem valF_letter (s : ByteArray) (i : Nat) (hi : i < s.size) (h0 : 0 ≤ lt5 (bt s (i : Int))) : valF (gT s) (5 * i) 5 = lt5 (bt s (i : Int)) := by
  have h := lt5_at s i
  simp only [valF]
  rw [gT_eq s i 0 hi (by omega), gT_eq s i 1 hi (by omega), gT_eq s i 2 hi (by omega), gT_eq s i 3 hi (by omega), gT_eq s i 4 hi (by omega)]
  rw [show ((2 : Int) ^ (4 - 0)) = 16 by decide, show ((2 : Int) ^ (4 - 1)) = 8 by decide, show ((2 : Int) ^ (4 - 2)) = 4 by decide, show ((2 : Int) ^ (4 - 3)) = 2 by decide, show ((2 : Int) ^ (4 - 4)) = 1 by decide]
  omega
def dat (f : Nat → Int) (q : Nat) : List Int := (List.range q).map fun j => valF f (8 * j) 8
theorem dat_len (f : Nat → Int) (q : Nat) : (dat f q).length = q := by simp [dat]
theorem dat_succ (f : Nat → Int) (q : Nat) : dat f (q + 1) = dat f q ++ [valF f (8 * q) 8] := by
  unfold dat
  rw [List.range_succ, List.map_append]; rfl
theorem dat_bytes {f : Nat → Int} (hf : ∀ k, 0 ≤ f k ∧ f k ≤ 1) (q : Nat) : ∀ x ∈ dat f q, 0 ≤ x ∧ x ≤ 255 := by
  intro x hx
  obtain ⟨j, _, rfl⟩ := List.mem_map.1 hx
  have h := valF_range hf (8 * j) 8
  rw [show ((2 : Int) ^ 8) = 256 by decide] at h
  omega
def encS (d : List Int) : ByteArray := strOfNums (outN (bitAt d) ((8 * d.length + 4) / 5))
theorem impl_enc (d : List Int) (h : d.length ≤ 20000) (hb : ∀ x ∈ d, 0 ≤ x ∧ x ≤ 255) : impl_Armor.f d = some (encS d) := by
  unfold impl_Armor.f encS
  rw [if_neg (by omega), armorL_eq d hb, str_eq (bitAt_range d)]
def finU (s : ByteArray) : List Int × Bool := if (dat (gT s) (5 * s.size / 8)).length ≤ 20000 ∧ (encS (dat (gT s) (5 * s.size / 8))).toList = s.toList then (dat (gT s) (5 * s.size / 8), true) else ([], false)
def okU (s : ByteArray) (i : Nat) : Bool := ((bytesOf s).drop i).all fun c => decide (0 ≤ lt5 c)
theorem mask5 (b : Nat) (h : b < 8) : wrap64 (shl .i64 1 ((b : Nat) : Int) - 1) = 2 ^ b - 1 := by
  have e : b = 0 ∨ b = 1 ∨ b = 2 ∨ b = 3 ∨ b = 4 ∨ b = 5 ∨ b = 6 ∨ b = 7 := by omega
  rcases e with rfl | rfl | rfl | rfl | rfl | rfl | rfl | rfl <;> (unfold wrap64; decide)
theorem impl_Unarmor_l0 (s : ByteArray) (hs : s.size ≤ 32008) : ∀ (d i : Nat), s.size = i + d →
    Ev (fun k => impl_Unarmor.l0 k s (dat (gT s) (5 * i / 8)) (valF (gT s) (8 * (5 * i / 8)) (5 * i % 8)) ((5 * i % 8 : Nat) : Int) (s.size : Int) (i : Int)) (if okU s i = true then finU s else ([], false)) := by
  have hf := gT_range s
  intro d
  induction d with
  | zero =>
    intro i h
    obtain rfl : i = s.size := by omega
    have ho : okU s s.size = true := by unfold okU; rw [List.drop_eq_nil_of_le (by rw [bytesOf_length]; exact Nat.le_refl _)]; rfl
    rw [if_pos ho]
    refine Ev.succ ?_
    simp only [impl_Unarmor.l0]
    refine Ev.no (by omega) (Ev.ite (fun hl => Ev.some ?_) fun hl => ?_)
    · unfold finU; rw [if_neg (by rw [dat_len] at *; omega)]
    · have hl' : (dat (gT s) (5 * s.size / 8)).length ≤ 20000 := by omega
      refine Ev.call (impl_enc _ hl' (dat_bytes hf _)) (Ev.ite (fun e => Ev.some ?_) fun e => Ev.some ?_)
      · unfold finU; rw [if_pos ⟨hl', e⟩]
      · unfold finU; rw [if_neg (fun z => e z.2)]
  | succ d ih =>
    intro i h
    have hc := lt5_at s i
    have ho : okU s i = (decide (0 ≤ lt5 (bt s (i : Int))) && okU s (i + 1)) := by unfold okU; rw [drop_bytes s i (by omega), List.all_cons]
    refine Ev.succ ?_
    simp only [impl_Unarmor.l0]
    refine Ev.yes (by omega) (Ev.yes (by omega) (Ev.yes (by omega) (Ev.call (a := lt5 (bt s (i : Int))) rfl ?_)))
    by_cases h0 : 0 ≤ lt5 (bt s (i : Int))
    · rw [ho, decide_eq_true h0, Bool.true_and]
      have z := ih (i + 1) (by omega)
      have hr := valF_range hf (8 * (5 * i / 8)) (5 * i % 8)
      have hsm := pow_small (5 * i % 8) (by omega)
      have V : Go.bits .or .i64 (wrap64 (valF (gT s) (8 * (5 * i / 8)) (5 * i % 8) * 32)) (lt5 (bt s (i : Int))) = valF (gT s) (8 * (5 * i / 8)) (5 * i % 8 + 5) := by
        rw [wrap_id (by omega) (by omega), i64_join 5 _ _ (by omega) (by omega) (by omega) (by omega) (by omega) (by omega), valF_add, show 8 * (5 * i / 8) + 5 * i % 8 = 5 * i by omega, valF_letter s i (by omega) h0]
        rfl
      have hr2 := valF_range hf (8 * (5 * i / 8)) (5 * i % 8 + 5)
      have hs2 := pow_small (5 * i % 8 + 5) (by omega)
      have w5 : wrap64 (((5 * i % 8 : Nat) : Int) + 5) = ((5 * i % 8 + 5 : Nat) : Int) := by rw [wrap_id (by omega) (by omega)]; omega
      rw [V, w5, wrap_nat (by omega)]
      refine Ev.no (by omega) (Ev.ite (fun h8 => ?_) fun h8 => ?_)
      · have w8 : wrap64 (((5 * i % 8 + 5 : Nat) : Int) - 8) = ((5 * (i + 1) % 8 : Nat) : Int) := by rw [wrap_id (by omega) (by omega)]; omega
        rw [w8, shr_nat _ _ (by omega), mask5 _ (by omega), i64_mask _ (by omega) _ hr2.1 (by omega)]
        have e : 5 * i % 8 + 5 = 8 + 5 * (i + 1) % 8 := by omega
        have e1 : valF (gT s) (8 * (5 * i / 8)) (5 * i % 8 + 5) / 2 ^ (5 * (i + 1) % 8) = valF (gT s) (8 * (5 * i / 8)) 8 := by rw [e]; exact valF_div hf _ _ _
        have e2 : valF (gT s) (8 * (5 * i / 8)) (5 * i % 8 + 5) % 2 ^ (5 * (i + 1) % 8) = valF (gT s) (8 * (5 * (i + 1) / 8)) (5 * (i + 1) % 8) := by
          rw [e, valF_mod hf, show 8 * (5 * i / 8) + 8 = 8 * (5 * (i + 1) / 8) by omega]
        have r8 := valF_range hf (8 * (5 * i / 8)) 8
        rw [show ((2 : Int) ^ 8) = 256 by decide] at r8
        rw [e1, e2, Int.emod_eq_of_lt r8.1 r8.2, ← dat_succ, show 5 * i / 8 + 1 = 5 * (i + 1) / 8 by omega]
        exact Ev.yes (by omega) (Ev.yes (by rw [dat_len]; omega) z)
      · rw [mask5 _ (by omega), i64_mask _ (by omega) _ hr2.1 (by omega), Int.emod_eq_of_lt hr2.1 hr2.2]
        rw [show 5 * (i + 1) / 8 = 5 * i / 8 by omega, show 5 * (i + 1) % 8 = 5 * i % 8 + 5 by omega] at z
        exact Ev.yes (by omega) z
    · rw [ho, decide_eq_false h0, Bool.false_and]
      exact Ev.yes (by omega) (Ev.now _)
theorem impl_Unarmor_ev (s : ByteArray) : Ev (fun k => impl_Unarmor.f k s) (if s.size ≤ 32008 ∧ okU s 0 = true then finU s else ([], false)) := by
  unfold impl_Unarmor.f
  refine Ev.ite (fun h => Ev.some ?_) fun h => ?_
  · rw [if_neg (by omega)]
  · have z := impl_Unarmor_l0 s (by omega) s.size 0 (by omega)
    by_cases ho : okU s 0 = true
    · rw [if_pos ho] at z; rw [if_pos ⟨by omega, ho⟩]; exact z
    · rw [if_neg ho] at z; rw [if_neg (fun q => ho q.2)]; exact z
def finalV (c : Int) : Nat → Nat → Int → Int
  | 0, _, v => v
  | d + 1, i, v => finalV c d (i + 1) (if bt letters (i : Int) = c then (i : Int) else v)
theorem finalV_fin : ∀ c : Fin 256, finalV ((c.val : Nat) : Int) 32 0 (-1) = lt5 ((c.val : Nat) : Int) := by decide +kernel
theorem finalV_eq (s : ByteArray) (i : Nat) : finalV (bt s (i : Int)) 32 0 (-1) = lt5 (bt s (i : Int)) := by
  have h := bt_range s (i : Int)
  have z := finalV_fin ⟨(bt s (i : Int)).toNat, by omega⟩
  rw [show (((bt s (i : Int)).toNat : Nat) : Int) = bt s (i : Int) by omega] at z
  exact z
theorem spec_Un_l1 (s : ByteArray) (x4 : List Int) (n : Nat) (hn : n < s.size) {r : List Int × Bool} : ∀ (d i : Nat) (v : Int), 32 = i + d →
    Ev (fun k => if finalV (bt s (n : Int)) d i v < 0 then (some (([] : List Int), false)) else (spec_l2Unarmor.l2 k s x4 (n : Int) (finalV (bt s (n : Int)) d i v) 0)) r → Ev (fun k => spec_l2Unarmor.l1 k s x4 (n : Int) v (i : Int)) r := by
  intro d
  induction d with
  | zero =>
    intro i v h go
    refine Ev.succ ?_
    simp only [spec_l2Unarmor.l1]
    exact Ev.no (by omega) go
  | succ d ih =>
    intro i v h go
    refine Ev.succ ?_
    simp only [spec_l2Unarmor.l1]
    unfold spec_l2Letters.f
    simp only [Option.bind_some]
    rw [wrap_nat (by omega)]
    refine Ev.yes (by omega) (Ev.yes (by omega) (Ev.yes (by show _ < ((32 : Nat) : Int); omega) (Ev.yes (by omega) (Ev.yes (by omega) (Ev.ite (fun e => ?_) fun e => ?_)))))
    · refine ih (i + 1) (i : Int) (by omega) ?_
      have e2 : finalV (bt s (n : Int)) (d + 1) i v = finalV (bt s (n : Int)) d (i + 1) (i : Int) := by
        show finalV _ d (i + 1) (if bt letters (i : Int) = bt s (n : Int) then (i : Int) else v) = _
        rw [if_pos (show bt letters (i : Int) = bt s (n : Int) from e)]
      rw [e2] at go; exact go
    · refine ih (i + 1) v (by omega) ?_
      have e2 : finalV (bt s (n : Int)) (d + 1) i v = finalV (bt s (n : Int)) d (i + 1) v := by
        show finalV _ d (i + 1) (if bt letters (i : Int) = bt s (n : Int) then (i : Int) else v) = _
        rw [if_neg (show ¬ bt letters (i : Int) = bt s (n : Int) from e)]
      rw [e2] at go; exact go
def cut (g : Nat → Int) (K k : Nat) : Int := if k < K then g k else 0
theorem cut_range {g : Nat → Int} (hg : ∀ k, 0 ≤ g k ∧ g k ≤ 1) (K k : Nat) : 0 ≤ cut g K k ∧ cut g K k ≤ 1 := by
  unfold cut
  split
  · exact hg k
  · omega
theorem valF_congr {f h : Nat → Int} (p : Nat) : ∀ n, (∀ k, p ≤ k → k < p + n → f k = h k) → valF f p n = valF h p n
  | 0, _ => rfl
  | n + 1, e => by
    show valF f p n * 2 + f (p + n) = valF h p n * 2 + h (p + n)
    rw [valF_congr p n (fun k a b => e k a (by omega)), e (p + n) (by omega) (by omega)]
theorem cut_same {g : Nat → Int} (K : Nat) (m : Nat) (h : g K = 0 ∨ 8 * m ≤ K) : dat (cut g (K + 1)) m = dat (cut g K) m := by
  unfold dat
  refine List.map_congr_left fun j hj => valF_congr _ _ fun k a b => ?_
  have hj := List.mem_range.1 hj
  unfold cut
  by_cases e : k = K
  · subst e
    rcases h with h | h
    · rw [if_pos (by omega), if_neg (by omega), h]
    · omega
  · by_cases e2 : k < K
    · rw [if_pos (by omega), if_pos e2]
    · rw [if_neg (by omega), if_neg e2]
theorem shl8 (r : Nat) (h : r < 8) : shl .u8 1 ((7 - r : Nat) : Int) = 2 ^ (7 - r) := by
  have e : r = 0 ∨ r = 1 ∨ r = 2 ∨ r = 3 ∨ r = 4 ∨ r = 5 ∨ r = 6 ∨ r = 7 := by omega
  rcases e with rfl | rfl | rfl | rfl | rfl | rfl | rfl | rfl <;> decide
theorem cut_set {g : Nat → Int} (hg : ∀ k, 0 ≤ g k ∧ g k ≤ 1) (K m : Nat) (h1 : g K = 1) (hK : K < 8 * m) :
    (dat (cut g K) m).set (K / 8) (Go.bits .or .u8 (rd (dat (cut g K) m) ((K / 8 : Nat) : Int)) (shl .u8 1 ((7 - K % 8 : Nat) : Int))) = dat (cut g (K + 1)) m := by
  have hc := cut_range hg K
  have hc1 := cut_range hg (K + 1)
  have lo : ∀ q, valF (cut g K) (8 * (K / 8)) (K % 8 + q) = valF (cut g K) (8 * (K / 8)) (K % 8) * 2 ^ q := by
    intro q
    rw [valF_add, valF_none (8 * (K / 8) + K % 8) q (fun k hk => by unfold cut; rw [if_neg (by omega)]), Int.add_zero]
  have A := valF_range hc (8 * (K / 8)) (K % 8)
  have b0 : valF (cut g K) (8 * (K / 8)) 8 = valF (cut g K) (8 * (K / 8)) (K % 8) * 2 ^ (8 - K % 8) := by
    have z := lo (8 - K % 8); rwa [show K % 8 + (8 - K % 8) = 8 by omega] at z
  have b1 : valF (cut g (K + 1)) (8 * (K / 8)) 8 = valF (cut g K) (8 * (K / 8)) (K % 8) * 2 ^ (8 - K % 8) + 2 ^ (7 - K % 8) := by
    have z := valF_add (cut g (K + 1)) (8 * (K / 8)) (K % 8 + 1) (7 - K % 8)
    rw [show K % 8 + 1 + (7 - K % 8) = 8 by omega, valF_none (8 * (K / 8) + (K % 8 + 1)) _ (fun k hk => by unfold cut; rw [if_neg (by omega)]), Int.add_zero] at z
    rw [z]
    show (valF (cut g (K + 1)) (8 * (K / 8)) (K % 8) * 2 + cut g (K + 1) (8 * (K / 8) + K % 8)) * 2 ^ (7 - K % 8) = _
    have c1 : cut g (K + 1) (8 * (K / 8) + K % 8) = 1 := by unfold cut; rw [if_pos (by omega), show 8 * (K / 8) + K % 8 = K by omega, h1]
    have c2 : valF (cut g (K + 1)) (8 * (K / 8)) (K % 8) = valF (cut g K) (8 * (K / 8)) (K % 8) := valF_congr _ _ fun k a b => by unfold cut; rw [if_pos (by omega), if_pos (by omega)]
    rw [c1, c2, show 8 - K % 8 = 7 - K % 8 + 1 by omega, Int.pow_succ, Int.add_mul, Int.one_mul, Int.mul_assoc, Int.mul_comm 2]
  have R := valF_range hc (8 * (K / 8)) 8
  rw [show ((2 : Int) ^ 8) = 256 by decide] at R
  have hp := two_pos (7 - K % 8)
  have hlt : (2 : Int) ^ (7 - K % 8) < 2 ^ (8 - K % 8) := by rw [show 8 - K % 8 = 7 - K % 8 + 1 by omega, Int.pow_succ]; omega
  have hle : (2 : Int) ^ (7 - K % 8) ≤ 128 := by
    have e : K % 8 = 0 ∨ K % 8 = 1 ∨ K % 8 = 2 ∨ K % 8 = 3 ∨ K % 8 = 4 ∨ K % 8 = 5 ∨ K % 8 = 6 ∨ K % 8 = 7 := by omega
    rcases e with e | e | e | e | e | e | e | e <;> rw [e] <;> decide
  have hbyte : rd (dat (cut g K) m) ((K / 8 : Nat) : Int) = valF (cut g K) (8 * (K / 8)) 8 := by
    rw [rd_nat _ _ (by rw [dat_len]; omega)]; simp [dat]
  have hor : Go.bits .or .u8 (valF (cut g K) (8 * (K / 8)) 8) (2 ^ (7 - K % 8)) = valF (cut g (K + 1)) (8 * (K / 8)) 8 := by
    rw [b1, ← b0]
    exact bits_join .u8 8 (by decide) wraps_u8 (8 - K % 8) _ _ R.1 (by rw [b0]; exact Int.mul_emod_left _ _) (by omega) (by omega) hlt (by omega)
  rw [hbyte, shl8 _ (by omega), hor]
  refine List.ext_getElem (by rw [List.length_set, dat_len, dat_len]) fun j a b => ?_
  rw [dat_len] at b
  rw [List.getElem_set]
  split
  · rename_i e; subst e; simp [dat]
  · rename_i e
    simp only [dat, List.getElem_map, List.getElem_range]
    refine valF_congr _ _ fun k a b => ?_
    unfold cut
    by_cases e2 : k < K
    · rw [if_pos e2, if_pos (by omega)]
    · rw [if_neg e2, if_neg (by omega)]
theorem spec_Un_l2 (s : ByteArray) (hs : s.size ≤ 40000) (m n : Nat) (hm : m ≤ 40000) (hn : n < s.size) (h0 : 0 ≤ lt5 (bt s (n : Int))) {r : List Int × Bool}
    (go : Ev (fun k => spec_l2Unarmor.l0 k s (dat (cut (gT s) (5 * (n + 1))) m) ((n + 1 : Nat) : Int)) r) : ∀ (d x : Nat), 5 = x + d →
    Ev (fun k => spec_l2Unarmor.l2 k s (dat (cut (gT s) (5 * n + x)) m) (n : Int) (lt5 (bt s (n : Int))) (x : Int)) r := by
  have hg := gT_range s
  have hv := lt5_at s n
  intro d
  induction d with
  | zero =>
    intro x h
    obtain rfl : x = 5 := by omega
    refine Ev.succ ?_
    simp only [spec_l2Unarmor.l2]
    rw [wrap_nat (show n < 9000000000000000000 by omega)]
    exact Ev.no (by omega) go
  | succ d ih =>
    intro x h
    have z := ih (x + 1) (by omega)
    have w1 : wrap64 (wrap64 ((n : Int) * 5) + (x : Int)) = ((5 * n + x : Nat) : Int) := by rw [wrap_id (x := (n : Int) * 5) (by omega) (by omega), wrap_id (by omega) (by omega)]; omega
    have w2 : wrap64 (((dat (cut (gT s) (5 * n + x)) m).length : Int) * 8) = ((8 * m : Nat) : Int) := by rw [dat_len, wrap_id (by omega) (by omega)]; omega
    have w3 : IntKind.u64.wrap (wrap64 (4 - (x : Int))) = ((4 - x : Nat) : Int) := by rw [wrap_id (by omega) (by omega), show (4 - (x : Int)) = ((4 - x : Nat) : Int) by omega, u64_nat _ (by omega)]
    refine Ev.succ ?_
    simp only [spec_l2Unarmor.l2]
    rw [w1, w2, w3, wrap_nat (show x < 9000000000000000000 by omega)]
    refine Ev.yes (by omega) (Ev.ite (fun hk => ?_) fun hk => ?_)
    · have hd : 0 ≤ lt5 (bt s (n : Int)) / 2 ^ (4 - x) ∧ lt5 (bt s (n : Int)) / 2 ^ (4 - x) ≤ 31 :=
        ⟨Int.ediv_nonneg h0 (Int.le_of_lt (two_pos _)), Int.le_trans (Int.ediv_le_self _ h0) (by omega)⟩
      rw [shr_nat _ _ (by omega), i64_and1 _ hd.1 (by omega), ← gT_eq s n x hn (by omega)]
      refine Ev.yes (by omega) (Ev.ite (fun h1 => ?_) fun h1 => ?_)
      · have t1 : wrap64 (Int.tdiv ((5 * n + x : Nat) : Int) 8) = (((5 * n + x) / 8 : Nat) : Int) := by
          rw [Int.tdiv_eq_ediv_of_nonneg (by omega), wrap_id (by omega) (by omega)]; omega
        have t2 : IntKind.u64.wrap (wrap64 (7 - Int.tmod ((5 * n + x : Nat) : Int) 8)) = ((7 - (5 * n + x) % 8 : Nat) : Int) := by
          rw [Int.tmod_eq_emod_of_nonneg (by omega), wrap_id (by omega) (by omega), show (7 - ((5 * n + x : Nat) : Int) % 8) = ((7 - (5 * n + x) % 8 : Nat) : Int) by omega, u64_nat _ (by omega)]
        rw [t1, t2, Int.toNat_natCast, cut_set hg (5 * n + x) m h1 (by omega)]
        exact Ev.yes (by omega) (Ev.yes (by rw [dat_len]; omega) (Ev.yes (by omega) z))
      · rw [← cut_same (5 * n + x) m (Or.inl (by have := hg (5 * n + x); omega))]
        exact z
    · rw [← cut_same (5 * n + x) m (Or.inr (by omega))]
      exact z
def datS (s : ByteArray) : List Int := dat (gT s) (5 * s.size / 8)
def resS (s : ByteArray) : List Int × Bool := if (datS s).length ≤ 20000 then (datS s, (encS (datS s)).toList == s.toList) else (datS s, false)
theorem spec_enc (d : List Int) (h : d.length ≤ 20000) (hb : ∀ x ∈ d, 0 ≤ x ∧ x ≤ 255) : Ev (fun k => spec_l2Armor.f k d) (encS d) := by
  unfold spec_l2Armor.f encS
  exact spec_l0 d h hb ((8 * d.length + 4) / 5) 0 (by omega)
theorem spec_Un_l0 (s : ByteArray) (hs : s.size ≤ 40000) : ∀ (d i : Nat), s.size = i + d →
    Ev (fun k => spec_l2Unarmor.l0 k s (dat (cut (gT s) (5 * i)) (5 * s.size / 8)) (i : Int)) (if okU s i = true then resS s else ([], false)) := by
  have hg := gT_range s
  intro d
  induction d with
  | zero =>
    intro i h
    obtain rfl : i = s.size := by omega
    have ho : okU s s.size = true := by unfold okU; rw [List.drop_eq_nil_of_le (by rw [bytesOf_length]; exact Nat.le_refl _)]; rfl
    have hc : cut (gT s) (5 * s.size) = gT s := by
      funext k
      unfold cut
      split
      · rfl
      · rename_i e; unfold gT; rw [if_neg e]
    rw [if_pos ho, hc]
    show Ev (fun k => spec_l2Unarmor.l0 k s (datS s) (s.size : Int)) (resS s)
    refine Ev.succ ?_
    simp only [spec_l2Unarmor.l0]
    refine Ev.no (by omega) (Ev.ite (fun hl => ?_) fun hl => Ev.some ?_)
    · refine (spec_enc (datS s) (by omega) (dat_bytes hg _)).bind (Ev.some ?_)
      unfold resS; rw [if_pos (by omega)]
    · unfold resS; rw [if_neg (by omega)]
  | succ d ih =>
    intro i h
    have ho : okU s i = (decide (0 ≤ lt5 (bt s (i : Int))) && okU s (i + 1)) := by unfold okU; rw [drop_bytes s i (by omega), List.all_cons]
    refine Ev.succ ?_
    simp only [spec_l2Unarmor.l0]
    refine Ev.yes (by omega) (spec_Un_l1 s _ i (by omega) 32 0 (-1) rfl ?_)
    rw [finalV_eq]
    by_cases h0 : 0 ≤ lt5 (bt s (i : Int))
    · rw [ho, decide_eq_true h0, Bool.true_and]
      exact Ev.no (by omega) (spec_Un_l2 s hs _ i (by omega) (by omega) h0 (ih (i + 1) (by omega)) 5 0 rfl)
    · rw [ho, decide_eq_false h0, Bool.false_and]
      exact Ev.yes (by omega) (Ev.now _)
theorem dat_zero (g : Nat → Int) (m : Nat) : dat (cut g 0) m = List.replicate m 0 := by
  refine List.eq_replicate_iff.2 ⟨dat_len _ _, fun x hx => ?_⟩
  obtain ⟨j, _, rfl⟩ := List.mem_map.1 hx
  exact valF_none _ _ fun k _ => by unfold cut; rw [if_neg (by omega)]
theorem spec_Unarmor_ev (s : ByteArray) : Ev (fun k => spec_Unarmor.f k s) (if s.size ≤ 32008 ∧ okU s 0 = true then finU s else ([], false)) := by
  unfold spec_Unarmor.f spec_l2Unarmor.f
  by_cases h : (s.size : Int) > 40000
  · rw [if_neg (by omega)]
    exact Ev.bind (a := ([], false)) (Ev.yes h (Ev.now _)) (Ev.no (by decide) (Ev.now _))
  · have w : wrap64 (Int.tdiv (wrap64 ((s.size : Int) * 5)) 8) = ((5 * s.size / 8 : Nat) : Int) := by
      rw [wrap_id (x := (s.size : Int) * 5) (by omega) (by omega), Int.tdiv_eq_ediv_of_nonneg (by omega), wrap_id (by omega) (by omega)]; omega
    have Z := spec_Un_l0 s (by omega) s.size 0 (by omega)
    rw [show 5 * 0 = 0 by rfl, dat_zero] at Z
    have F : Ev (fun k => if (s.size : Int) > 40000 then (some (([] : List Int), false)) else (if 0 ≤ (wrap64 (Int.tdiv (wrap64 ((s.size : Int) * 5)) 8)) then (if (wrap64 (Int.tdiv (wrap64 ((s.size : Int) * 5)) 8) : Int).toNat ≤ 281474976710656 then (spec_l2Unarmor.l0 k s (List.replicate (wrap64 (Int.tdiv (wrap64 ((s.size : Int) * 5)) 8) : Int).toNat 0) 0) else (none)) else (none))) (if okU s 0 = true then resS s else ([], false)) := by
      rw [w, Int.toNat_natCast]
      exact Ev.no h (Ev.yes (by omega) (Ev.yes (by omega) Z))
    refine F.bind ?_
    by_cases ho : okU s 0 = true
    · have e0 : (if okU s 0 = true then resS s else ([], false)) = resS s := if_pos ho
      rw [e0]
      by_cases hl : (datS s).length ≤ 20000
      · have hl2 : s.size ≤ 32008 := by have z := hl; unfold datS at z; rw [dat_len] at z; omega
        have e1 : resS s = (datS s, (encS (datS s)).toList == s.toList) := if_pos hl
        have e2 : (if s.size ≤ 32008 ∧ okU s 0 = true then finU s else ([], false)) = finU s := if_pos ⟨hl2, ho⟩
        rw [e1, e2]
        by_cases e : (encS (datS s)).toList = s.toList
        · have e3 : finU s = (datS s, true) := if_pos ⟨hl, e⟩
          rw [e3]
          exact Ev.yes (beq_iff_eq.2 e) (Ev.now _)
        · have e3 : finU s = ([], false) := if_neg (fun q => e q.2)
          rw [e3]
          exact Ev.no (fun z => e (beq_iff_eq.1 z)) (Ev.now _)
      · have e1 : resS s = (datS s, false) := if_neg hl
        rw [e1]
        refine Ev.no (fun z => Bool.noConfusion z) (Ev.some ?_)
        by_cases h8 : s.size ≤ 32008 ∧ okU s 0 = true
        · have e3 : finU s = ([], false) := if_neg (fun q => hl q.1)
          rw [if_pos h8, e3]
        · rw [if_neg h8]
    · have e0 : (if okU s 0 = true then resS s else ([], false)) = ([], false) := if_neg ho
      have e2 : (if s.size ≤ 32008 ∧ okU s 0 = true then finU s else ([], false)) = ([], false) := if_neg (fun q => ho q.2)
      rw [e0, e2]
      exact Ev.no (fun z => Bool.noConfusion z) (Ev.now _)
theorem FnExactUnarmor : laws_FnExactUnarmor.Pure := by
  intro s _
  apply Ev.rounds
  unfold laws_FnExactUnarmor.f
  refine Ev.ite (fun _ => Ev.now _) fun hl => ?_
  have S := spec_Unarmor_ev s
  have I := impl_Unarmor_ev s
  have hr : (if s.size ≤ 32008 ∧ okU s 0 = true then finU s else ([], false)).1.length ≤ 20000 := by
    split
    · unfold finU
      split
      · rename_i e; exact e.1
      · exact Nat.zero_le _
    · exact Nat.zero_le _
  generalize (if s.size ≤ 32008 ∧ okU s 0 = true then finU s else ([], false)) = r at *
  obtain ⟨d, b⟩ := r
  have R := eqByteS_self d (by simp only [] at hr; omega)
  refine S.bind (I.bind (R.bind (Ev.yes rfl ?_)))
  refine Ev.succ ?_
  simp only [laws_FnExactUnarmor.j0, bne_self_eq_false]
  simp only [] at hr
  have H := heldByteS_ev 1 d.length (by omega) (by omega)
  refine Ev.no (by simp) ((markByteS_ev d 1 (by omega) (by omega)).bind (H.bind (Ev.no (by omega) (Ev.yes rfl (I.bind (R.bind (Ev.yes rfl ?_)))))))
  refine Ev.succ ?_
  simp only [laws_FnExactUnarmor.j1]
  exact Ev.no (by simp) (H.bind (Ev.no (by omega) (Ev.yes rfl (Ev.now _))))

end Go.Proofs.Ytmnlgdmojbhfcaa.Pure
