/- The program's Join answers what the reference's answers, for every list of shares.
Conditions: none but the row's own. -/
import Derived.Test.YtehffdeiclepmaaFitFnExactJoin
namespace Go.Proofs.Ytehffdeiclepmaa.Pure
open Go.RowKit Go.Proofs.Ytehffdeiclepmaa.PFnExactJoin Go.Proofs.YtehffdeiclepmaaW.PrintWords Go.Proofs.YtehffdeiclepmaaW.PrintLast Go.Proofs.YtehffdeiclepmaaOpen
set_option linter.unusedVariables false
set_option linter.unusedSimpArgs false

/-! ### from some number of rounds on -/
theorem Ev.yes {α : Type} {c : Prop} {inst : Decidable c} {A B : Nat → Option α} {r : α} (h : c) (k : Ev A r) : Ev (fun n => @ite _ c inst (A n) (B n)) r :=
  k.congr fun n => if_pos h
theorem Ev.no {α : Type} {c : Prop} {inst : Decidable c} {A B : Nat → Option α} {r : α} (h : ¬ c) (k : Ev B r) : Ev (fun n => @ite _ c inst (A n) (B n)) r :=
  k.congr fun n => if_neg h
theorem Ev.ite {α : Type} {c : Prop} {inst : Decidable c} {A B : Nat → Option α} {r : α} (h : c → Ev A r) (k : ¬ c → Ev B r) : Ev (fun n => @ite _ c inst (A n) (B n)) r := by
  by_cases e : c
  · exact Ev.yes e (h e)
  · exact Ev.no e (k e)
theorem Ev.some {α : Type} {a r : α} (h : a = r) : Ev (fun _ => some a) r := h ▸ Ev.now a
/-- A callee without rounds. -/
theorem Ev.call {α β : Type} {g : Option α} {f : Nat → α → Option β} {a : α} {r : β} (h : g = Option.some a) (k : Ev (fun n => f n a) r) : Ev (fun n => g.bind (f n)) r := by
  refine k.congr fun n => ?_
  rw [h]; rfl
theorem Ev.tail {α : Type} {g : Nat → Option α} {r : α} (h : Ev g r) : Ev (fun n => (g n).bind fun t => Option.some t) r := h.bind (Ev.now r)
theorem Ev.succ {α : Type} {g : Nat → Option α} {r : α} (h : Ev (fun k => g (k + 1)) r) : Ev g r := Ev.step (fun _ => rfl) h
theorem wrap_nat {i : Nat} (h : i < 9000000000000000000) : wrap64 ((i : Int) + 1) = ((i + 1 : Nat) : Int) := by unfold wrap64; omega
theorem wrap_id {x : Int} (h0 : -9223372036854775808 ≤ x) (h1 : x ≤ 9223372036854775807) : wrap64 x = x := by unfold wrap64; omega
theorem bt_nat (s : ByteArray) (i : Nat) (h : i < s.size) : bt s (i : Int) = (bytesOf s)[i]'(by rw [bytesOf_length]; exact h) := by
  have := rd_bytesOf s (i : Int)
  rw [← this]; unfold rd; rw [Int.toNat_natCast, List.getD_eq_getElem?_getD, List.getElem?_eq_getElem (by rw [bytesOf_length]; exact h)]; rfl
theorem drop_bytes (s : ByteArray) (i : Nat) (h : i < s.size) : (bytesOf s).drop i = bt s (i : Int) :: (bytesOf s).drop (i + 1) := by
  rw [bt_nat s i h]; exact List.drop_eq_getElem_cons (by rw [bytesOf_length]; exact h)
theorem bytes_range (s : ByteArray) : ∀ b ∈ bytesOf s, 0 ≤ b ∧ b ≤ 255 := by
  intro b hb
  unfold bytesOf at hb
  obtain ⟨x, _, rfl⟩ := List.mem_map.1 hb
  have := x.toNat_lt
  omega
/-- A loop over a string that asks each byte. -/
theorem loop_all {l : Nat → Int → Option Bool} {p : Int → Bool} {s : ByteArray}
    (yes : ∀ i : Nat, i < s.size → p (bt s i) = true → ∀ r, Ev (fun k => l k ((i + 1 : Nat) : Int)) r → Ev (fun k => l k (i : Int)) r)
    (no : ∀ i : Nat, i < s.size → p (bt s i) = false → Ev (fun k => l k (i : Int)) false)
    (done : Ev (fun k => l k (s.size : Int)) true) :
    ∀ (d i : Nat), s.size = i + d → Ev (fun k => l k (i : Int)) (((bytesOf s).drop i).all p) := by
  intro d
  induction d with
  | zero =>
    intro i h
    obtain rfl : i = s.size := by omega
    rw [List.drop_eq_nil_of_le (by rw [bytesOf_length]; exact Nat.le_refl _)]
    exact done
  | succ d ih =>
    intro i h
    rw [drop_bytes s i (by omega), List.all_cons]
    cases hp : p (bt s i) with
    | true => rw [Bool.true_and]; exact yes i (by omega) hp _ (ih (i + 1) (by omega))
    | false => rw [Bool.false_and]; exact no i (by omega) hp
/-! ### lists of numbers, and what the law's own functions do with bytes -/
theorem rd_nat (l : List Int) (i : Nat) (h : i < l.length) : rd l (i : Int) = l[i] := by
  unfold rd; rw [Int.toNat_natCast, List.getD_eq_getElem?_getD, List.getElem?_eq_getElem h]; rfl
theorem set_step {β : Type} (xs : List β) (z : β) (i : Nat) (h : i < xs.length) :
    (xs.take i ++ List.replicate (xs.length - i) z).set i xs[i] = xs.take (i + 1) ++ List.replicate (xs.length - (i + 1)) z := by
  obtain ⟨d, hd⟩ : ∃ d, xs.length - i = d + 1 := ⟨xs.length - i - 1, by omega⟩
  rw [hd, show xs.length - (i + 1) = d by omega, List.replicate_succ, List.set_append_right _ _ (by simp; omega)]
  rw [show i - (xs.take i).length = 0 by simp; omega, List.set_cons_zero, List.take_succ_eq_append_getElem h, List.append_assoc]; rfl
theorem fill_len {β : Type} (xs : List β) (z : β) (i : Nat) (h : i ≤ xs.length) : (xs.take i ++ List.replicate (xs.length - i) z).length = xs.length := by simp; omega
/-! ### what is left of the law's measure -/
def szA (m a : Int) : Int := if m - a < 0 then -1 else m - a
theorem szA_neg {m a : Int} : ¬ szA m a < 0 ↔ a ≤ m := by unfold szA; split <;> omega
theorem szA_ok {m a : Int} (h : ¬ szA m a < 0) : szA m a = m - a ∧ a ≤ m := by
  unfold szA at *
  by_cases e : m - a < 0
  · rw [if_pos e] at h; omega
  · rw [if_neg e]; omega
/-! ### the loops of the law's own functions, whatever the elements -/
theorem self_loop {L : Nat → Int → Option Bool} {n : Nat} (step : ∀ i : Nat, i < n → Ev (fun k => L k ((i + 1 : Nat) : Int)) true → Ev (fun k => L k (i : Int)) true) (done : Ev (fun k => L k (n : Int)) true) :
    ∀ (d i : Nat), n = i + d → Ev (fun k => L k (i : Int)) true := by
  intro d
  induction d with
  | zero => intro i h; obtain rfl : n = i := by omega
            exact done
  | succ d ih => intro i h; exact step i (by omega) (ih (i + 1) (by omega))
theorem to_loop {α β : Type} {L : Nat → List β → Int → Option (List β)} {l : List α} {g : α → β} {z : β}
    (step : ∀ (i : Nat) (h : i < l.length) (o : List β), o.length = l.length → ∀ r, Ev (fun k => L k (o.set i (g l[i])) ((i + 1 : Nat) : Int)) r → Ev (fun k => L k o (i : Int)) r)
    (done : ∀ o : List β, Ev (fun k => L k o (l.length : Int)) o) :
    ∀ (d i : Nat), l.length = i + d → Ev (fun k => L k ((l.map g).take i ++ List.replicate (l.length - i) z) (i : Int)) (l.map g) := by
  intro d
  induction d with
  | zero =>
    intro i h
    obtain rfl : i = l.length := by omega
    rw [Nat.sub_self, List.replicate_zero, List.append_nil, List.take_of_length_le (by simp)]
    exact done _
  | succ d ih =>
    intro i h
    refine step i (by omega) _ (by simp; omega) _ ?_
    have e := set_step (l.map g) z i (by simp; omega)
    simp only [List.length_map, List.getElem_map] at e
    rw [e]
    exact ih (i + 1) (by omega)
/-- What a measure tells: what is left, and that all it measured fits. -/
def SzTo (g : Nat → Option Int) (m : Int) (Q : Prop) : Prop := ∃ r, Ev g r ∧ r ≤ m ∧ (¬ r < 0 → Q)
theorem sz_loop {α : Type} {L : Nat → Int → Int → Option Int} {l : List α} {Q : α → Prop}
    (step : ∀ (i : Nat) (h : i < l.length) (m : Int), 0 ≤ m → m ≤ 1048576 → ∃ r, r ≤ m ∧ (¬ r < 0 → Q l[i]) ∧ (r < 0 → Ev (fun k => L k m (i : Int)) (-1)) ∧ (¬ r < 0 → ∀ s, Ev (fun k => L k r ((i + 1 : Nat) : Int)) s → Ev (fun k => L k m (i : Int)) s))
    (done : ∀ m : Int, Ev (fun k => L k m (l.length : Int)) m) :
    ∀ (d i : Nat) (m : Int), l.length = i + d → 0 ≤ m → m ≤ 1048576 → SzTo (fun k => L k m (i : Int)) m (∀ x ∈ l.drop i, Q x) := by
  intro d
  induction d with
  | zero =>
    intro i m h h0 h1
    obtain rfl : i = l.length := by omega
    exact ⟨m, done m, Int.le_refl _, fun _ x hx => by rw [List.drop_length] at hx; simp at hx⟩
  | succ d ih =>
    intro i m h h0 h1
    obtain ⟨r, hr, hq, hneg, hpos⟩ := step i (by omega) m h0 h1
    by_cases hz : r < 0
    · exact ⟨-1, hneg hz, by omega, fun h => absurd (by omega) h⟩
    · obtain ⟨s, hs, hle, hall⟩ := ih (i + 1) r (by omega) (by omega) (by omega)
      refine ⟨s, hpos hz s hs, by omega, fun hn x hx => ?_⟩
      rw [List.drop_eq_getElem_cons (show i < l.length by omega)] at hx
      rcases List.mem_cons.1 hx with rfl | hx
      · exact hq hz
      · exact hall hn x hx
/-! ### bits of whole numbers -/
theorem wraps_i64 (n : Int) (h₀ : 0 ≤ n) (h₁ : n < 2 ^ 63) : IntKind.i64.wrap n = n := by rw [IntKind.wrap_i64]; omega
theorem i64_mask (j : Nat) (hj : j ≤ 63) (x : Int) (h₀ : 0 ≤ x) (h₁ : x < 9223372036854775808) : Go.bits .and .i64 x (2 ^ j - 1) = x % 2 ^ j :=
  bits_mask .i64 63 (by decide) wraps_i64 j hj x h₀ (by omega)
theorem i64_and1 (x : Int) (h₀ : 0 ≤ x) (h₁ : x < 9223372036854775808) : Go.bits .and .i64 x 1 = x % 2 := i64_mask 1 (by decide) x h₀ h₁
theorem i64_join (j : Nat) (x y : Int) (hx₀ : 0 ≤ x) (hx : x % 2 ^ j = 0) (hx₁ : x < 9223372036854775808) (hy₀ : 0 ≤ y) (hy : y < 2 ^ j) (hy₁ : y < 9223372036854775808) : Go.bits .or .i64 x y = x + y :=
  bits_join .i64 63 (by decide) wraps_i64 j x y hx₀ hx (by omega) hy₀ hy (by omega)
theorem shr_nat (x : Int) (i : Nat) (h : i ≤ 64) : shr .i64 x (i : Int) = x / 2 ^ i := by
  unfold shr
  rw [Int.toNat_natCast, Nat.min_eq_left (by simpa [IntKind.bits] using h)]
theorem u64_nat (i : Nat) (h : i < 9000000000000000000) : IntKind.u64.wrap (i : Int) = (i : Int) := by
  simp [IntKind.wrap, IntKind.bits, IntKind.signed]; omega
/-! ### powers modulo a number -/
theorem emod_mul_emod (a b m : Int) : (a % m * (b % m)) % m = (a * b) % m := (Int.mul_emod a b m).symm
theorem emod_mul_left (a b m : Int) : (a % m * b) % m = (a * b) % m := by rw [Int.mul_emod, Int.emod_emod_of_dvd a (Int.dvd_refl m), ← Int.mul_emod]
theorem emod_mul_right (a b m : Int) : (a * (b % m)) % m = (a * b) % m := by rw [Int.mul_emod, Int.emod_emod_of_dvd b (Int.dvd_refl m), ← Int.mul_emod]
theorem emod_pow (a m : Int) (n : Nat) : ((a % m) ^ n) % m = (a ^ n) % m := by
  induction n with
  | zero => rw [Int.pow_zero, Int.pow_zero]
  | succ n ih => rw [Int.pow_succ, Int.pow_succ, ← emod_mul_left, ih, emod_mul_left, emod_mul_right]
theorem mul_bound {a b m : Int} (ha : 0 ≤ a) (ha' : a < m) (hb : 0 ≤ b) (hb' : b < m) (hm : m ≤ 3000000000) : 0 ≤ a * b ∧ a * b ≤ 9000000000000000000 := by
  refine ⟨Int.mul_nonneg ha hb, ?_⟩
  have h1 : a * b ≤ 3000000000 * b := Int.mul_le_mul_of_nonneg_right (by omega) hb
  omega
theorem tmul {a b m : Int} (ha : 0 ≤ a) (ha' : a < m) (hb : 0 ≤ b) (hb' : b < m) (hm : m ≤ 3000000000) : Int.tmod (wrap64 (a * b)) m = (a * b) % m := by
  have h := mul_bound ha ha' hb hb' hm
  rw [wrap_id (by omega) (by omega), Int.tmod_eq_emod_of_nonneg h.1]
theorem mod_bound (a : Int) {m : Int} (h : 0 < m) : 0 ≤ a % m ∧ a % m < m := ⟨Int.emod_nonneg _ (by omega), Int.emod_lt_of_pos _ h⟩
def powM (b e m : Int) : Int := (b ^ e.toNat) % m
theorem impl_ypow_l0 (m : Int) (h1 : 0 < m) (hm : m ≤ 3000000000) : ∀ (n : Nat) (e b r : Int), e.toNat ≤ n → 0 ≤ e → e < 9223372036854775808 → 0 ≤ b → b < m → 0 ≤ r → r < m →
    Ev (fun k => impl_ypow.l0 k b e m r) ((r * b ^ e.toNat) % m) := by
  intro n
  induction n with
  | zero =>
    intro e b r hn h0 he hb hb' hr hr'
    obtain rfl : e = 0 := by omega
    refine Ev.step (fun _ => rfl) (Ev.no (by omega) (Ev.some ?_))
    rw [Int.toNat_zero, Int.pow_zero, Int.mul_one, Int.emod_eq_of_lt hr hr']
  | succ n ih =>
    intro e b r hn h0 he hb hb' hr hr'
    by_cases hz : e = 0
    · obtain rfl := hz
      refine Ev.step (fun _ => rfl) (Ev.no (by omega) (Ev.some ?_))
      rw [Int.toNat_zero, Int.pow_zero, Int.mul_one, Int.emod_eq_of_lt hr hr']
    · have hbb := mod_bound (b * b) h1
      have hrb := mod_bound (r * b) h1
      have he2 : e.toNat = 2 * (e / 2).toNat + (e % 2).toNat := by omega
      have hsq : ((b * b) % m) ^ (e / 2).toNat % m = (b ^ (2 * (e / 2).toNat)) % m := by
        rw [emod_pow]; congr 1; rw [Int.pow_mul]; congr 1; rw [Int.pow_succ, Int.pow_succ, Int.pow_zero, Int.one_mul]
      refine Ev.step (fun _ => rfl) (Ev.yes (by omega) ?_)
      rw [i64_and1 e h0 he]
      refine Ev.ite (fun hodd => Ev.no (by omega) ?_) (fun hev => Ev.no (by omega) ?_)
      · rw [tmul hb hb' hb hb' hm, tmul hr hr' hb hb' hm]
        have h := ih (e / 2) ((b * b) % m) ((r * b) % m) (by omega) (by omega) (by omega) hbb.1 hbb.2 hrb.1 hrb.2
        have hx : ((r * b) % m * ((b * b) % m) ^ (e / 2).toNat) % m = (r * b ^ e.toNat) % m := by
          rw [emod_mul_left, ← emod_mul_right, hsq, emod_mul_right, he2, hodd, Int.pow_add, Int.mul_assoc]
          congr 2
          show b * _ = _ * b ^ 1
          rw [Int.pow_succ, Int.pow_zero, Int.one_mul, Int.mul_comm]
        rw [hx] at h
        exact h
      · rw [tmul hb hb' hb hb' hm]
        have h := ih (e / 2) ((b * b) % m) r (by omega) (by omega) (by omega) hbb.1 hbb.2 hr hr'
        have hx : (r * ((b * b) % m) ^ (e / 2).toNat) % m = (r * b ^ e.toNat) % m := by
          rw [← emod_mul_right, hsq, emod_mul_right, he2, show (e % 2).toNat = 0 from by omega, Nat.add_zero]
        rw [hx] at h
        exact h
theorem impl_ypow_ev (b e m : Int) (h1 : 1 < m) (hm : m ≤ 3000000000) (hb : 0 ≤ b) (h0 : 0 ≤ e) (he : e < 9223372036854775808) : Ev (fun k => impl_ypow.f k b e m) (powM b e m) := by
  unfold impl_ypow.f powM
  refine Ev.no (by omega) ?_
  rw [Int.tmod_eq_emod_of_nonneg hb]
  have hbb := mod_bound b (show 0 < m by omega)
  have h := impl_ypow_l0 m (by omega) hm e.toNat e (b % m) 1 (Nat.le_refl _) h0 he hbb.1 hbb.2 (by omega) (by omega)
  rw [Int.one_mul, emod_pow] at h
  exact h
theorem spec_l2Power_l0 (a e m : Int) (h1 : 0 < m) (hm : m ≤ 3000000000) (ha : 0 ≤ a) (ha' : a < 3000000000) (h0 : 0 ≤ e) (he : e < 9223372036854775808) : ∀ (n : Nat), n ≤ 41 →
    Ev (fun k => spec_l2Power.l0 k a e m ((a ^ (e / 2 ^ n).toNat) % m) ((n : Int) - 1)) ((a ^ e.toNat) % m) := by
  intro n
  induction n with
  | zero =>
    intro _
    refine Ev.step (fun _ => rfl) (Ev.no (by omega) (Ev.some ?_))
    rw [Int.pow_zero, Int.ediv_one]
  | succ n ih =>
    intro hn
    have h := ih (by omega)
    have hi : ((n + 1 : Nat) : Int) - 1 = (n : Int) := by omega
    rw [hi]
    refine Ev.step (fun _ => rfl) (Ev.yes (by omega) (Ev.no (by omega) ?_))
    rw [u64_nat n (by omega), shr_nat e n (by omega)]
    have hp : (0 : Int) < 2 ^ n := Int.pow_pos (by decide)
    have q0 : 0 ≤ e / 2 ^ n := Int.ediv_nonneg h0 (by omega)
    have q1 : e / 2 ^ n ≤ e := Int.ediv_le_self _ h0
    have hd : e / 2 ^ (n + 1) = e / 2 ^ n / 2 := by rw [Int.pow_succ, Int.ediv_ediv_of_nonneg (by omega)]
    generalize e / 2 ^ n = q at *
    rw [hd, i64_and1 _ q0 (by omega)]
    have hb := mod_bound (a ^ (q / 2).toNat) h1
    have hq : q.toNat = (q / 2).toNat + (q / 2).toNat + (q % 2).toNat := by omega
    have hsq : ((a ^ (q / 2).toNat) % m * ((a ^ (q / 2).toNat) % m)) % m = (a ^ ((q / 2).toNat + (q / 2).toNat)) % m := by rw [emod_mul_emod, Int.pow_add]
    have hw : wrap64 ((n : Int) - 1) = (n : Int) - 1 := wrap_id (by omega) (by omega)
    rw [hw]
    refine Ev.yes (by omega) ?_
    rw [tmul hb.1 hb.2 hb.1 hb.2 hm, hsq]
    refine Ev.ite (fun hodd => ?_) (fun hev => ?_)
    · have hb2 := mod_bound (a ^ ((q / 2).toNat + (q / 2).toNat)) h1
      have hx : Int.tmod (wrap64 ((a ^ ((q / 2).toNat + (q / 2).toNat)) % m * a)) m = (a ^ q.toNat) % m := by
        have h3 : 0 ≤ (a ^ ((q / 2).toNat + (q / 2).toNat)) % m * a := Int.mul_nonneg hb2.1 ha
        have h4 : (a ^ ((q / 2).toNat + (q / 2).toNat)) % m * a ≤ 3000000000 * a := Int.mul_le_mul_of_nonneg_right (by omega) ha
        rw [wrap_id (by omega) (by omega), Int.tmod_eq_emod_of_nonneg h3, emod_mul_left, hq, hodd, Int.pow_add _ (_ + _)]
        congr 2
        show a = a ^ 1
        rw [Int.pow_succ, Int.pow_zero, Int.one_mul]
      rw [hx]
      exact h
    · rw [show (q / 2).toNat + (q / 2).toNat = q.toNat from by omega]
      exact h
theorem spec_l2Power_ev (a e m : Int) (h1 : 1 < m) (hm : m ≤ 3000000000) (ha : 0 ≤ a) (ha' : a < 3000000000) (h0 : 0 ≤ e) (he : e < 2199023255552) : Ev (fun k => spec_l2Power.f k a e m) (powM a e m) := by
  unfold spec_l2Power.f powM
  have h := spec_l2Power_l0 a e m (by omega) hm ha ha' h0 (by omega) 41 (Nat.le_refl _)
  have hz : e / 2 ^ 41 = 0 := Int.ediv_eq_zero_of_lt h0 (by omega)
  rw [hz, Int.toNat_zero, Int.pow_zero, Int.emod_eq_of_lt (by omega) h1] at h
  exact h
def cvShare (x : S34) : S31 := ⟨x.f0, x.f1⟩
theorem eqShare_self (y0 : Int) (y1 : Int) : laws_eqShare.f y0 y1 y0 y1 = some true := by
  simp [laws_eqShare.f]
theorem eqShareS_self (a : List S31) (ha : a.length ≤ 1048576) : Ev (fun k => laws_eqShareS.f k a a) true := by
  unfold laws_eqShareS.f
  refine Ev.yes rfl (self_loop (L := fun k i => laws_eqShareS.l0 k a a i) (n := a.length) (fun i hi hr => ?_) ?_ a.length 0 (by omega))
  · refine Ev.succ ?_
    simp only [laws_eqShareS.l0]
    rw [← wrap_nat (by omega)] at hr
    exact Ev.yes (by omega) (Ev.yes (by omega) (Ev.yes (by omega) (Ev.call (eqShare_self _ _) (Ev.yes rfl hr))))
  · refine Ev.succ ?_
    simp only [laws_eqShareS.l0]
    exact Ev.no (by omega) (Ev.now _)
theorem toShareS_ev (l : List S34) (hl : l.length ≤ 1048576) : Ev (fun k => laws_toShareS.f k l) (l.map cvShare) := by
  unfold laws_toShareS.f
  refine Ev.yes (by omega) (Ev.yes (by omega) ?_)
  refine to_loop (L := fun k o i => laws_toShareS.l0 k l o i) (g := cvShare) (z := z31) ?_ ?_ l.length 0 (by omega)
  · intro i h o ho r hr
    refine Ev.succ ?_
    simp only [laws_toShareS.l0]
    refine Ev.yes (by omega) (Ev.yes (by omega) ?_)
    simp only [laws_toShare.f, Option.bind_some]
    refine Ev.yes (by omega) ?_
    rw [wrap_nat (by omega), Int.toNat_natCast]
    have e : rd_T34 l (i : Int) = l[i] := by unfold rd_T34; rw [Int.toNat_natCast, List.getD_eq_getElem?_getD, List.getElem?_eq_getElem h]; rfl
    rw [e]
    exact hr
  · intro o
    refine Ev.succ ?_
    simp only [laws_toShareS.l0]
    exact Ev.no (by omega) (Ev.now _)
abbrev Sh : Type := S31
abbrev rdS (l : List Sh) (i : Nat) : Sh := rd_T31 l (i : Int)
theorem seenJ_iff (l : List Sh) (a : Int) : ∀ i, seenJ l i a = true ↔ ∃ j, j < i ∧ (rdS l j).f0 = a
  | 0 => by simp [seenJ]
  | i + 1 => by
    unfold seenJ
    by_cases h : a = (rd_T31 l (i : Int)).f0
    · rw [if_pos h]; exact ⟨fun _ => ⟨i, by omega, h.symm⟩, fun _ => rfl⟩
    · rw [if_neg h, seenJ_iff l a i]
      constructor
      · rintro ⟨j, h1, h2⟩; exact ⟨j, by omega, h2⟩
      · rintro ⟨j, h1, h2⟩
        by_cases e : j = i
        · subst e; exact absurd h2.symm h
        · exact ⟨j, by omega, h2⟩
theorem good_at (l : List Sh) (n i : Nat) (h : allJ l n = true) (hi : i < n) : badJ l i = false := by
  have := allJ_le l (i + 1) n (by omega) h
  simp [allJ] at this
  exact this.2
theorem good_bounds {l : List Sh} {i : Nat} (h : badJ l i = false) : 1 ≤ (rdS l i).f0 ∧ (rdS l i).f0 < 1073741789 ∧ 0 ≤ (rdS l i).f1 ∧ (rdS l i).f1 < 1073741789 ∧ seenJ l i (rdS l i).f0 = false := by
  unfold badJ at h
  simp only [Bool.or_eq_false_iff, decide_eq_false_iff_not] at h
  obtain ⟨⟨⟨⟨h1, h2⟩, h3⟩, h4⟩, h5⟩ := h
  exact ⟨by unfold rdS; omega, by unfold rdS; omega, by unfold rdS; omega, by unfold rdS; omega, h5⟩
theorem den_bounds (l : List Sh) (i : Nat) (hi : i < l.length) (ha : allJ l l.length = true) : ∀ j, j ≤ l.length → 0 ≤ denJ l i j ∧ denJ l i j < 1073741789
  | 0, _ => by unfold denJ; omega
  | j + 1, h => by
    have ih := den_bounds l i hi ha j (by omega)
    unfold denJ
    split
    · exact ih
    · have b1 := good_bounds (good_at l _ j ha (by omega))
      have b2 := good_bounds (good_at l _ i ha hi)
      unfold rdS at b1 b2
      rw [wrap_id (x := (rd_T31 l (j : Int)).f0 - (rd_T31 l (i : Int)).f0) (by omega) (by omega)]
      rw [wrap_id (x := (rd_T31 l (j : Int)).f0 - (rd_T31 l (i : Int)).f0 + 1073741789) (by omega) (by omega)]
      rw [Int.tmod_eq_emod_of_nonneg (show 0 ≤ (rd_T31 l (j : Int)).f0 - (rd_T31 l (i : Int)).f0 + 1073741789 by omega)]
      have m := mod_bound ((rd_T31 l (j : Int)).f0 - (rd_T31 l (i : Int)).f0 + 1073741789) (m := 1073741789) (by omega)
      rw [tmul ih.1 ih.2 m.1 m.2 (by omega)]
      exact mod_bound _ (by omega)
def sumV (l : List Sh) : Nat → Int
  | 0 => 0
  | i + 1 => Int.tmod (wrap64 (sumV l i + (wrap64 (numJ l i l.length * powM (denJ l i l.length) 1073741787 1073741789)))) 1073741789
def joinV (l : List Sh) : Int × Bool := if (l.length : Int) < 1 then (0, false) else if (l.length : Int) > 20 then (0, false) else if allJ l l.length = true then (sumV l l.length, true) else (0, false)
theorem joinS_ev (l : List Sh) (ha : allJ l l.length = true) : ∀ i, i ≤ l.length → Ev (fun k => joinS k l i) (sumV l i)
  | 0, _ => Ev.now _
  | i + 1, h => by
    have b := den_bounds l i (by omega) ha l.length (Nat.le_refl _)
    unfold joinS sumV
    exact (joinS_ev l ha i (by omega)).bind ((impl_ypow_ev _ 1073741787 1073741789 (by omega) (by omega) b.1 (by omega) (by omega)).bind (Ev.now _))
theorem impl_Join_ev (l : List Sh) : Ev (fun k => impl_Join.f k l) (joinV l) := by
  unfold impl_Join.f joinV
  refine Ev.ite (fun h => Ev.some (by rw [if_pos h])) fun h => ?_
  rw [if_neg h]
  refine Ev.ite (fun h => Ev.some (by rw [if_pos h])) fun h => ?_
  rw [if_neg h]
  refine Ev.ite (fun h => ?_) fun h => Ev.some (by rw [if_neg h])
  rw [if_pos h]
  exact (joinS_ev l h _ (Nat.le_refl _)).bind (Ev.now _)
theorem spec_l3_ev (l : List Sh) (hl : l.length ≤ 20) (s : Int) (i : Nat) (hi : i < l.length) (ha : allJ l l.length = true) (r : Int × Bool)
    (hr : Ev (fun k => spec_Join.l2 k l (Int.tmod (wrap64 (s + (wrap64 (numJ l i l.length * powM (denJ l i l.length) 1073741787 1073741789)))) 1073741789) l (l.length : Int) ((i + 1 : Nat) : Int)) r) :
    ∀ (d j : Nat), l.length = j + d → Ev (fun k => spec_Join.l3 k l s (i : Int) (numJ l i j) (denJ l i j) l (l.length : Int) (i : Int) l (l.length : Int) (j : Int) (rdS l i).f0 (rdS l i).f1) r := by
  intro d
  induction d with
  | zero =>
    intro j h
    obtain rfl : j = l.length := by omega
    refine Ev.succ ?_
    simp only [spec_Join.l3]
    have b := den_bounds l i hi ha l.length (Nat.le_refl _)
    rw [wrap_nat (i := i) (by omega)]
    exact Ev.no (by omega) ((spec_l2Power_ev _ 1073741787 1073741789 (by omega) (by omega) b.1 (by omega) (by omega) (by omega)).bind hr)
  | succ d ih =>
    intro j h
    have z := ih (j + 1) (by omega)
    refine Ev.succ ?_
    simp only [spec_Join.l3]
    rw [wrap_nat (i := j) (by omega)]
    refine Ev.yes (by omega) (Ev.yes (by omega) (Ev.yes (by omega) (Ev.ite (fun e => ?_) fun e => ?_)))
    · have e : j = i := by omega
      simp only [numJ, denJ, if_pos e] at z
      exact z
    · have e : ¬ j = i := by omega
      simp only [numJ, denJ, if_neg e] at z
      exact z
theorem spec_l2_ev (l : List Sh) (hl : l.length ≤ 20) (ha : allJ l l.length = true) : ∀ (d i : Nat), l.length = i + d → Ev (fun k => spec_Join.l2 k l (sumV l i) l (l.length : Int) (i : Int)) (sumV l l.length, true) := by
  intro d
  induction d with
  | zero =>
    intro i h
    obtain rfl : i = l.length := by omega
    refine Ev.succ ?_
    simp only [spec_Join.l2]
    exact Ev.no (by omega) (Ev.now _)
  | succ d ih =>
    intro i h
    refine Ev.succ ?_
    simp only [spec_Join.l2]
    exact Ev.yes (by omega) (Ev.yes (by omega) (Ev.yes (by omega) (spec_l3_ev l hl (sumV l i) i (by omega) ha _ (ih (i + 1) (by omega)) l.length 0 (by omega))))
theorem rd_take (l : List Sh) (i j : Nat) (h : j < i) : rdS (l.take i) j = rdS l j := by
  unfold rdS rd_T31
  rw [Int.toNat_natCast, List.getD_eq_getElem?_getD, List.getD_eq_getElem?_getD, List.getElem?_take, if_pos h]
theorem spec_l1_ev (l : List Sh) (hl : l.length ≤ 20) (i : Nat) (hi : i < l.length) (X Y : Int) (r : Int × Bool) (hr : seenJ l i X = false → Ev (fun k => spec_Join.l0 k l l (l.length : Int) ((i + 1 : Nat) : Int)) r) (hs : seenJ l i X = true → r = (0, false)) :
    ∀ (d j : Nat), i = j + d → (∀ j', j' < j → (rdS l j').f0 ≠ X) → Ev (fun k => spec_Join.l1 k l l (l.length : Int) (i : Int) (l.take i) ((l.take i).length : Int) (j : Int) X Y) r := by
  intro d
  induction d with
  | zero =>
    intro j h hn
    refine Ev.succ ?_
    simp only [spec_Join.l1]
    rw [wrap_nat (i := i) (by omega)]
    refine Ev.no (by rw [List.length_take]; omega) (hr (Bool.eq_false_iff.2 fun hc => ?_))
    obtain ⟨j', h1, h2⟩ := (seenJ_iff l X i).1 hc
    exact hn j' (by omega) h2
  | succ d ih =>
    intro j h hn
    refine Ev.succ ?_
    simp only [spec_Join.l1]
    rw [wrap_nat (i := j) (by omega)]
    refine Ev.yes (by rw [List.length_take]; omega) (Ev.yes (by omega) (Ev.yes (by rw [List.length_take]; omega) ?_))
    rw [show rd_T31 (l.take i) (j : Int) = rdS l j from rd_take l i j (by omega)]
    refine Ev.ite (fun e => Ev.some ?_) fun e => ih (j + 1) (by omega) fun j' hj => ?_
    · exact (hs ((seenJ_iff l X i).2 ⟨j, by omega, e⟩)).symm
    · by_cases q : j' = j
      · subst q; exact e
      · exact hn j' (by omega)
def restV (l : List Sh) : Int × Bool := if allJ l l.length = true then (sumV l l.length, true) else (0, false)
theorem restV_bad {l : List Sh} {i : Nat} (hi : i < l.length) (hb : badJ l i = true) : restV l = (0, false) := by
  unfold restV
  rw [if_neg]
  intro h
  rw [good_at l _ i h hi] at hb
  exact absurd hb (by decide)
theorem spec_l0_ev (l : List Sh) (hl : l.length ≤ 20) : ∀ (d i : Nat), l.length = i + d → allJ l i = true → Ev (fun k => spec_Join.l0 k l l (l.length : Int) (i : Int)) (restV l) := by
  intro d
  induction d with
  | zero =>
    intro i h ha
    obtain rfl : i = l.length := by omega
    refine Ev.succ ?_
    simp only [spec_Join.l0]
    unfold restV
    rw [if_pos ha]
    exact Ev.no (by omega) (spec_l2_ev l hl ha l.length 0 (by omega))
  | succ d ih =>
    intro i h ha
    have hi : i < l.length := by omega
    have bad : ∀ X Y, badJ l i = true → Ev (fun k => spec_Join.j2 k l (i : Int) l (l.length : Int) (i : Int) true X Y) (restV l) := by
      intro X Y hb
      refine Ev.succ ?_
      simp only [spec_Join.j2]
      exact Ev.yes trivial (Ev.some (restV_bad hi hb).symm)
    refine Ev.succ ?_
    simp only [spec_Join.l0]
    refine Ev.yes (by omega) (Ev.yes (by omega) (Ev.yes (by omega) (Ev.ite (fun d1 => bad _ _ (by unfold badJ; simp [d1])) fun d1 => Ev.ite (fun d2 => bad _ _ (by unfold badJ; simp [d2])) fun d2 => Ev.ite (fun d3 => bad _ _ (by unfold badJ; simp [d3])) fun d3 => ?_)))
    by_cases d4 : (rd_T31 l (i : Int)).f1 ≥ 1073741789
    · rw [decide_eq_true d4]; exact bad _ _ (by unfold badJ; simp [d4])
    · rw [decide_eq_false d4]
      refine Ev.succ ?_
      simp only [spec_Join.j2]
      rw [Int.toNat_natCast]
      refine Ev.no (by decide) (Ev.yes (by omega) (Ev.yes (by omega) (Ev.call rfl ?_)))
      refine spec_l1_ev l hl i hi _ _ _ (fun hs => ih (i + 1) (by omega) ?_) (fun hs => restV_bad hi (by unfold badJ; simp [hs])) i 0 (by omega) (fun j' h => absurd h (by omega))
      unfold allJ badJ
      rw [ha, hs, decide_eq_false d1, decide_eq_false d2, decide_eq_false d3, decide_eq_false d4]
      rfl
theorem spec_Join_ev (l : List Sh) : Ev (fun k => spec_Join.f k l) (joinV l) := by
  unfold spec_Join.f joinV
  refine Ev.ite (fun h => ?_) fun h => ?_
  · rw [if_pos h]
    refine Ev.succ ?_
    simp only [spec_Join.j0]
    exact Ev.yes trivial (Ev.now _)
  · rw [if_neg h]
    by_cases h2 : (l.length : Int) > 20
    · rw [if_pos h2, decide_eq_true h2]
      refine Ev.succ ?_
      simp only [spec_Join.j0]
      exact Ev.yes trivial (Ev.now _)
    · rw [if_neg h2, decide_eq_false h2]
      refine Ev.succ ?_
      simp only [spec_Join.j0]
      exact Ev.no (by decide) (spec_l0_ev l (by omega) l.length 0 (by omega) rfl)
theorem FnExactJoin : laws_FnExactJoin.Pure := by
  intro l hf
  apply Ev.rounds
  have hb : l.length ≤ 17592186044416 := by have := hf.2.1; omega
  unfold laws_FnExactJoin.f
  have sz : laws_szShareS.f l 1048576 = some (if 1048576 - (l.length : Int) < 0 then -1 else 1048576 - (l.length : Int)) := by
    unfold laws_szShareS.f
    rw [wrap_id (by omega) (by omega)]
    split <;> rfl
  refine Ev.call sz (Ev.ite (fun _ => Ev.now _) fun hn => ?_)
  have hl : l.length ≤ 1048576 := by
    by_cases q : 1048576 - (l.length : Int) < 0
    · rw [if_pos q] at hn; omega
    · omega
  have T := toShareS_ev l hl
  refine T.bind ((spec_Join_ev _).bind (T.bind ((impl_Join_ev _).bind (Ev.yes rfl ?_))))
  refine Ev.succ ?_
  simp only [laws_FnExactJoin.j0]
  exact Ev.no (by simp) (T.bind ((eqShareS_self _ (by rw [List.length_map]; exact hl)).bind (Ev.yes rfl (Ev.now _))))

end Go.Proofs.Ytehffdeiclepmaa.Pure
