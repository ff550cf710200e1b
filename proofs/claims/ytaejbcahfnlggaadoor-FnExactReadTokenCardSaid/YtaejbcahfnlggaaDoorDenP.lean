import Derived.Test.YtaejbcahfnlggaaDoorDenA
import Derived.KernelRfl
import Derived.Laws.Strings
namespace Go.Den
open Go.RowKit (wrap64)
set_option linter.unusedVariables false
/-! Plain law: what comes out from some number of rounds on (calls: K, turns of a loop: j). -/
def Ev {α : Type} (g : Nat → Nat → Option α) (r : α) : Prop := ∃ n, ∀ K j, n ≤ K → n ≤ j → g K j = some r
section
variable {α β : Type} {r : α}
theorem Ev.now (r : α) : Ev (fun _ _ => some r) r := ⟨0, fun _ _ _ _ => rfl⟩
theorem Ev.some {a r : α} (h : a = r) : Ev (fun _ _ => some a) r := h ▸ Ev.now a
theorem Ev.congr {A B : Nat → Nat → Option α} (k : Ev B r) (h : ∀ K j, A K j = B K j) : Ev A r := by
  obtain ⟨n, hn⟩ := k; exact ⟨n, fun K j h1 h2 => by rw [h]; exact hn K j h1 h2⟩
theorem Ev.yes {c : Prop} {inst : Decidable c} {A B : Nat → Nat → Option α} (h : c) (k : Ev A r) : Ev (fun K j => @ite _ c inst (A K j) (B K j)) r := k.congr fun _ _ => if_pos h
theorem Ev.no {c : Prop} {inst : Decidable c} {A B : Nat → Nat → Option α} (h : ¬ c) (k : Ev B r) : Ev (fun K j => @ite _ c inst (A K j) (B K j)) r := k.congr fun _ _ => if_neg h
theorem Ev.ite {c : Prop} {inst : Decidable c} {A B : Nat → Nat → Option α} (h : c → Ev A r) (k : ¬ c → Ev B r) : Ev (fun K j => @ite _ c inst (A K j) (B K j)) r := by
  by_cases e : c
  · exact Ev.yes e (h e)
  · exact Ev.no e (k e)
theorem Ev.bind {g : Nat → Nat → Option α} {f : Nat → Nat → α → Option β} {a : α} {r : β} (h : Ev g a) (k : Ev (fun K j => f K j a) r) : Ev (fun K j => (g K j).bind (f K j)) r := by
  obtain ⟨n, hn⟩ := h; obtain ⟨m, hm⟩ := k
  refine ⟨max n m, fun K j h1 h2 => ?_⟩
  show (g K j).bind (f K j) = _
  rw [hn K j (by omega) (by omega), Option.bind_some]; exact hm K j (by omega) (by omega)
theorem Ev.tail {g : Nat → Nat → Option α} (h : Ev g r) : Ev (fun K j => (g K j).bind fun t => Option.some t) r := h.bind (Ev.now r)
/-- a function, by its equation -/
theorem Ev.fn {f B : Nat → Option α} (e : ∀ k, f (k + 1) = B k) (h : Ev (fun K _ => B K) r) : Ev (fun K _ => f K) r := by
  obtain ⟨n, hn⟩ := h
  refine ⟨n + 1, fun K j h1 _ => ?_⟩
  obtain ⟨K, rfl⟩ : ∃ q, K = q + 1 := ⟨K - 1, by omega⟩
  show f (K + 1) = _
  rw [e]; exact hn K n (by omega) (Nat.le_refl _)
/-- a loop, by its equation -/
theorem Ev.lp {L B : Nat → Nat → Option α} (e : ∀ K j, L K (j + 1) = B K j) (h : Ev B r) : Ev L r := by
  obtain ⟨n, hn⟩ := h
  refine ⟨n + 1, fun K j h1 h2 => ?_⟩
  obtain ⟨j, rfl⟩ : ∃ q, j = q + 1 := ⟨j - 1, by omega⟩
  rw [e]; exact hn K j (by omega) (by omega)
/-- a loop that a function starts -/
theorem Ev.diag {L : Nat → Nat → Option α} (h : Ev L r) : Ev (fun K _ => L K K) r := by
  obtain ⟨n, hn⟩ := h; exact ⟨n, fun K _ h1 _ => hn K K h1 h1⟩
theorem Ev.rounds {f : Nat → Option α} (h : Ev (fun K _ => f K) r) : ∃ k, f k = Option.some r := by
  obtain ⟨n, hn⟩ := h; exact ⟨n, hn n n (Nat.le_refl _) (Nat.le_refl _)⟩
end
theorem wrap_nat {i : Nat} (h : i < 9000000000000000000) : wrap64 ((i : Int) + 1) = ((i + 1 : Nat) : Int) := by unfold wrap64; omega
theorem wrap_id {x : Int} (h0 : -9223372036854775808 ≤ x) (h1 : x ≤ 9223372036854775807) : wrap64 x = x := by unfold wrap64; omega
theorem rd_nat {α : Type} (z : α) (l : List α) (i : Nat) : rd z l (i : Int) = l.getD i z := by unfold rd; rw [Int.toNat_natCast]
theorem rd_at {α : Type} (z : α) (l : List α) (i : Nat) (h : i < l.length) : rd z l (i : Int) = l[i] := by
  rw [rd_nat, List.getD_eq_getElem?_getD, List.getElem?_eq_getElem h]; rfl
theorem getD_at {α : Type} (l : List α) (z : α) (i : Nat) (h : i < l.length) : l.getD i z = l[i] := by
  rw [List.getD_eq_getElem?_getD, List.getElem?_eq_getElem h]; rfl
theorem bytesOf_length (s : ByteArray) : (bytesOf s).length = s.size := by unfold bytesOf; rw [List.length_map]; rfl
theorem bt_nat (s : ByteArray) (i : Nat) (h : i < s.size) : bt s (i : Int) = (bytesOf s)[i]'(by rw [bytesOf_length]; exact h) := by
  unfold bt bytesOf
  simp only [Int.toNat_natCast, List.getElem_map]
  rw [dif_pos h]
  rfl
theorem drop_bytes (s : ByteArray) (i : Nat) (h : i < s.size) : (bytesOf s).drop i = bt s (i : Int) :: (bytesOf s).drop (i + 1) := by
  rw [bt_nat s i h]; exact List.drop_eq_getElem_cons (by rw [bytesOf_length]; exact h)
theorem bytes_range (s : ByteArray) : ∀ b ∈ bytesOf s, 0 ≤ b ∧ b ≤ 255 := by
  intro b hb
  unfold bytesOf at hb
  obtain ⟨x, _, rfl⟩ := List.mem_map.1 hb
  have := x.toNat_lt
  omega
theorem bt_range (s : ByteArray) (i : Int) : 0 ≤ bt s i ∧ bt s i ≤ 255 := by
  unfold bt
  split
  · rename_i h; have := (s[i.toNat]'h).toNat_lt; omega
  · omega
theorem size_nil (s : ByteArray) : s.toList = (⟨#[]⟩ : ByteArray).toList ↔ s.size = 0 := by
  rw [ByteArray.toList_eq, ByteArray.toList_eq]
  constructor
  · intro h; have := congrArg List.length h; simpa using this
  · intro h; show s.data.toList = []; apply List.eq_nil_of_length_eq_zero; simpa using h
/-- a loop over a row that asks each -/
theorem all_loop {α : Type} {L : Nat → Nat → Int → Option Bool} {l : List α} {p : α → Bool} {z : Bool}
    (step : ∀ (i : Nat) (h : i < l.length), (p l[i] = false → Ev (fun K j => L K j (i : Int)) false) ∧ (p l[i] = true → ∀ r, Ev (fun K j => L K j ((i + 1 : Nat) : Int)) r → Ev (fun K j => L K j (i : Int)) r))
    (done : Ev (fun K j => L K j (l.length : Int)) z) : ∀ (d i : Nat), l.length = i + d → Ev (fun K j => L K j (i : Int)) ((l.drop i).all p && z) := by
  intro d
  induction d with
  | zero =>
    intro i h
    obtain rfl : i = l.length := by omega
    rw [List.drop_length]; exact done
  | succ d ih =>
    intro i h
    rw [List.drop_eq_getElem_cons (show i < l.length by omega), List.all_cons]
    obtain ⟨h1, h2⟩ := step i (by omega)
    cases hp : p l[i] with
    | true => rw [Bool.true_and]; exact h2 hp _ (ih (i + 1) (by omega))
    | false => rw [Bool.false_and, Bool.false_and]; exact h1 hp
/-- the same over a text's bytes -/
theorem loop_all {L : Nat → Nat → Int → Option Bool} {p : Int → Bool} {s : ByteArray}
    (yes : ∀ i : Nat, i < s.size → p (bt s i) = true → ∀ r, Ev (fun K j => L K j ((i + 1 : Nat) : Int)) r → Ev (fun K j => L K j (i : Int)) r)
    (no : ∀ i : Nat, i < s.size → p (bt s i) = false → Ev (fun K j => L K j (i : Int)) false)
    (done : Ev (fun K j => L K j (s.size : Int)) true) : Ev (fun K j => L K j 0) ((bytesOf s).all p) := by
  have := all_loop (L := L) (l := bytesOf s) (p := p) (z := true) (fun i h => by
    rw [bytesOf_length] at h
    rw [← bt_nat s i h]
    exact ⟨no i h, yes i h⟩) (by rw [bytesOf_length]; exact done) (bytesOf s).length 0 (by omega)
  simpa using this
/-- a loop that copies a row into a fresh one -/
theorem copy_loop {α : Type} {L : Nat → Nat → Int → List α → Option (List α)} {l : List α}
    (step : ∀ (i : Nat) (h : i < l.length) (y : List α), y.length = l.length → ∀ r, Ev (fun K j => L K j ((i + 1 : Nat) : Int) (put y (i : Int) l[i])) r → Ev (fun K j => L K j (i : Int) y) r)
    (done : ∀ y : List α, Ev (fun K j => L K j (l.length : Int) y) y) : ∀ (d i : Nat) (y : List α), l.length = i + d → y.length = l.length → y.take i = l.take i → Ev (fun K j => L K j (i : Int) y) l := by
  intro d
  induction d with
  | zero =>
    intro i y h hy ht
    obtain rfl : i = l.length := by omega
    rw [List.take_length, ← hy, List.take_length] at ht
    subst ht
    exact done y
  | succ d ih =>
    intro i y h hy ht
    refine step i (by omega) y hy _ (ih (i + 1) _ (by omega) (by unfold put; rw [List.length_set]; exact hy) ?_)
    unfold put
    rw [Int.toNat_natCast, List.take_succ_eq_append_getElem (by rw [List.length_set]; omega), List.take_succ_eq_append_getElem (show i < l.length by omega), List.getElem_set_self, List.take_set_of_le (Nat.le_refl _), ht]
/-- a loop that measures a row -/
theorem sz_loop {α : Type} {L : Nat → Nat → Int → Int → Option Int} {l : List α}
    (step : ∀ (i : Nat) (h : i < l.length) (m : Int), 0 ≤ m → m ≤ 1048576 → Ev (fun K j => L K j m (i : Int)) (-1) ∨ ∃ m', 0 ≤ m' ∧ m' ≤ m ∧ ∀ r, Ev (fun K j => L K j m' ((i + 1 : Nat) : Int)) r → Ev (fun K j => L K j m (i : Int)) r)
    (done : ∀ m : Int, Ev (fun K j => L K j m (l.length : Int)) m) : ∀ (d i : Nat) (m : Int), l.length = i + d → 0 ≤ m → m ≤ 1048576 → ∃ r, Ev (fun K j => L K j m (i : Int)) r ∧ -1 ≤ r ∧ r ≤ m := by
  intro d
  induction d with
  | zero =>
    intro i m h h0 h1
    obtain rfl : i = l.length := by omega
    exact ⟨m, done m, by omega, by omega⟩
  | succ d ih =>
    intro i m h h0 h1
    rcases step i (by omega) m h0 h1 with e | ⟨m', g0, g1, e⟩
    · exact ⟨-1, e, by omega, by omega⟩
    · obtain ⟨r, q, q0, q1⟩ := ih (i + 1) m' (by omega) g0 (by omega)
      exact ⟨r, e _ q, q0, by omega⟩
/-- a loop in which every round goes on -/
theorem true_loop {L : Nat → Nat → Int → Option Bool} {n : Nat} (step : ∀ i : Nat, i < n → ∀ r, Ev (fun K j => L K j ((i + 1 : Nat) : Int)) r → Ev (fun K j => L K j (i : Int)) r)
    (done : Ev (fun K j => L K j (n : Int)) true) : ∀ (d i : Nat), n = i + d → Ev (fun K j => L K j (i : Int)) true := by
  intro d
  induction d with
  | zero =>
    intro i h
    obtain rfl : i = n := by omega
    exact done
  | succ d ih => intro i h; exact step i (by omega) _ (ih (i + 1) (by omega))
theorem reps_length {α : Type} (l : List α) (z : α) : (reps (l.length : Int) z).length = l.length := by unfold reps; rw [List.length_replicate, Int.toNat_natCast]
/-- what goes on, and what does not, told at once -/
theorem two_ways {B : Nat → Nat → Option Bool} {R : Nat → Nat → Option Bool} {b : Bool} (H : ∀ r, (b = true → Ev R r) → Ev B (b && r)) : (b = false → Ev B false) ∧ (b = true → ∀ r, Ev R r → Ev B r) := by
  refine ⟨fun hb => ?_, fun hb r hr => ?_⟩
  · have := H true (fun h => by rw [hb] at h; cases h)
    rw [hb] at this; exact this
  · have := H r (fun _ => hr)
    rw [hb] at this; exact this
/-- the first that is so -/
def findV {α β : Type} (q : α → Bool) (v : α → β) (z : β) : List α → β
  | [] => z
  | x :: l => if q x = true then v x else findV q v z l
theorem findV_loop {α β : Type} {L : Nat → Nat → Int → Option β} {l : List α} {q : α → Bool} {v : α → β} {z : β}
    (step : ∀ (i : Nat) (h : i < l.length), (q l[i] = true → Ev (fun K j => L K j (i : Int)) (v l[i])) ∧ (q l[i] = false → ∀ r, Ev (fun K j => L K j ((i + 1 : Nat) : Int)) r → Ev (fun K j => L K j (i : Int)) r))
    (done : Ev (fun K j => L K j (l.length : Int)) z) : ∀ (d i : Nat), l.length = i + d → Ev (fun K j => L K j (i : Int)) (findV q v z (l.drop i)) := by
  intro d
  induction d with
  | zero =>
    intro i h
    obtain rfl : i = l.length := by omega
    rw [List.drop_length]; exact done
  | succ d ih =>
    intro i h
    rw [List.drop_eq_getElem_cons (show i < l.length by omega)]
    unfold findV
    obtain ⟨h1, h2⟩ := step i (by omega)
    cases hp : q l[i] with
    | true => rw [if_pos rfl]; exact h1 hp
    | false => rw [if_neg (by simp)]; exact h2 hp _ (ih (i + 1) (by omega))
/-- each good, and each above the one before -/
def okAt {α : Type} (g : α → Bool) (c : α → α → Int) (z : α) (l : List α) (i : Nat) : Bool := g (l.getD i z) && (decide (i = 0) || decide (c (l.getD (i - 1) z) (l.getD i z) < 0))
def rising {α : Type} (g : α → Bool) (c : α → α → Int) (z : α) (l : List α) : Bool := (List.range l.length).all (okAt g c z l)
theorem rise_loop {α : Type} {L : Nat → Nat → Int → Option Bool} {l : List α} {g : α → Bool} {c : α → α → Int} {z : α} {r : Bool}
    (step : ∀ i : Nat, i < l.length → (okAt g c z l i = false → Ev (fun K j => L K j (i : Int)) false) ∧ (okAt g c z l i = true → ∀ r, Ev (fun K j => L K j ((i + 1 : Nat) : Int)) r → Ev (fun K j => L K j (i : Int)) r))
    (done : Ev (fun K j => L K j (l.length : Int)) r) : Ev (fun K j => L K j 0) (rising g c z l && r) := by
  have H := all_loop (L := L) (l := List.range l.length) (p := okAt g c z l) (z := r) (fun i h => by
    rw [List.getElem_range]
    exact step i (by simpa using h)) (by rw [List.length_range]; exact done) l.length 0 (by simp)
  exact H
theorem cast_pred {i : Nat} (h : 0 < i) (h1 : i < 9000000000000000000) : wrap64 ((i : Int) - 1) = ((i - 1 : Nat) : Int) := by rw [wrap_id (by omega) (by omega)]; omega
end Go.Den
