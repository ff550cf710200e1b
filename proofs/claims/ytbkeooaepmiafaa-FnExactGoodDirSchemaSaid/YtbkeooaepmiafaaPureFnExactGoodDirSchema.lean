-- The plain law of this claim: no program in sight but the equations of its functions.
import Derived.Test.YtbkeooaepmiafaaFitFnExactGoodDirSchema
import Derived.Test.YtbkeooaepmiafaaDenP
namespace Go.Proofs.Ytbkeooaepmiafaa.PB
open Go Go.Den
open Go.RowKit (wrap64)
set_option linter.unusedVariables false
/-! ### the law's measure -/
def SzP (g : Nat → Nat → Option Int) (m : Int) (P : Prop) : Prop := ∃ r, Ev g r ∧ -1 ≤ r ∧ r ≤ m ∧ (0 ≤ r → P)
theorem SzP.now {r m : Int} {P : Prop} (h : -1 ≤ r) (h1 : r ≤ m) (p : P) : SzP (fun _ _ => some r) m P := ⟨r, Ev.now _, h, h1, fun _ => p⟩
theorem SzP.cut {c : Prop} {inst : Decidable c} {B : Nat → Nat → Option Int} {m : Int} {P : Prop} (hm : -1 ≤ m) (h : ¬ c → SzP B m P) : SzP (fun K j => @ite _ c inst (some (-1)) (B K j)) m P := by
  by_cases e : c
  · exact ⟨-1, Ev.yes e (Ev.now _), by omega, hm, fun h => by omega⟩
  · obtain ⟨r, q, q1, q2, q3⟩ := h e
    exact ⟨r, Ev.no e q, q1, q2, q3⟩
theorem SzP.bind {g : Nat → Nat → Option Int} {f : Nat → Nat → Int → Option Int} {m m' : Int} {P P' : Prop} (h : SzP g m' P') (hm : -1 ≤ m) (k : ∀ r, 0 ≤ r → r ≤ m' → P' → SzP (fun K j => f K j r) m P) :
    SzP (fun K j => (g K j).bind fun t => if t < 0 then some (-1) else f K j t) m P := by
  obtain ⟨r, q, q1, q2, q3⟩ := h
  by_cases e : r < 0
  · exact ⟨-1, q.bind (Ev.yes e (Ev.now _)), by omega, hm, fun h => by omega⟩
  · obtain ⟨s, z, z1, z2, z3⟩ := k r (by omega) q2 (q3 (by omega))
    exact ⟨s, q.bind (Ev.no e z), z1, z2, z3⟩
theorem SzP.fn {f B : Nat → Option Int} {m : Int} {P : Prop} (e : ∀ k, f (k + 1) = B k) (h : SzP (fun K _ => B K) m P) : SzP (fun K _ => f K) m P := by
  obtain ⟨r, q, q1, q2, q3⟩ := h; exact ⟨r, Ev.fn e q, q1, q2, q3⟩
theorem SzP.imp {g : Nat → Nat → Option Int} {m m' : Int} {P P' : Prop} (h : SzP g m P) (hm : m ≤ m') (hp : P → P') : SzP g m' P' := by
  obtain ⟨r, q, q1, q2, q3⟩ := h; exact ⟨r, q, q1, by omega, fun z => hp (q3 z)⟩

/-! ### what the law's measure leaves: everything is short -/
def smSh : (s : Sh) → sem s → Prop
  | .int k, x => (Lit.int k x).wf = true
  | .bool, _ => True
  | .str, s => (s : ByteArray).size ≤ 1048576
  | .unit, _ => True
  | .pair a b, x => smSh a x.1 ∧ smSh b x.2
  | .list t, l => (l : List (sem t)).length ≤ 1048576 ∧ allIn (α := sem t) l (smSh t)
theorem SzP.len {g : Nat → Nat → Option Int} {m : Int} {P : Prop} (h : SzP g m P) (q : P) : SzP g m P := h
/-- a loop that measures a row's elements -/
theorem sz_row {α : Type} {L : Nat → Nat → Int → Int → Option Int} {l : List α} {P : α → Prop}
    (step : ∀ (i : Nat) (h : i < l.length) (m : Int), 0 ≤ m → m ≤ 1048576 → ∃ r, -1 ≤ r ∧ r ≤ m ∧ (0 ≤ r → P l[i]) ∧ (r < 0 → Ev (fun K j => L K j m (i : Int)) (-1)) ∧ (0 ≤ r → ∀ s, Ev (fun K j => L K j r ((i + 1 : Nat) : Int)) s → Ev (fun K j => L K j m (i : Int)) s))
    (done : ∀ m : Int, Ev (fun K j => L K j m (l.length : Int)) m) : ∀ (d i : Nat) (m : Int), l.length = i + d → 0 ≤ m → m ≤ 1048576 → SzP (fun K j => L K j m (i : Int)) m (∀ x ∈ l.drop i, P x) := by
  intro d
  induction d with
  | zero =>
    intro i m h h0 h1
    obtain rfl : i = l.length := by omega
    exact ⟨m, done m, by omega, by omega, fun _ x hx => by rw [List.drop_length] at hx; cases hx⟩
  | succ d ih =>
    intro i m h h0 h1
    obtain ⟨r, r1, r2, r3, r4, r5⟩ := step i (by omega) m h0 h1
    by_cases hr : r < 0
    · exact ⟨-1, r4 hr, by omega, by omega, fun h => by omega⟩
    · obtain ⟨s, q, q1, q2, q3⟩ := ih (i + 1) r (by omega) (by omega) (by omega)
      refine ⟨s, r5 (by omega) s q, q1, by omega, fun hs x hx => ?_⟩
      rw [List.drop_eq_getElem_cons (show i < l.length by omega)] at hx
      rcases List.mem_cons.1 hx with rfl | hx
      · exact r3 (by omega)
      · exact q3 hs x hx
theorem SzP.loop {L : Nat → Nat → Int → Int → Option Int} {m : Int} {P P' : Prop} (h : SzP (fun K j => L K j m 0) m P) (hp : P → P') : SzP (fun K _ => L K K m 0) m P' := by
  obtain ⟨r, q, q1, q2, q3⟩ := h
  exact ⟨r, Ev.diag q, q1, q2, fun z => hp (q3 z)⟩

/-! ### good names -/
def pDigit (a : Int) : Bool := decide (48 ≤ a ∧ a ≤ 57)
def pLetter (a : Int) : Bool := decide (97 ≤ a ∧ a ≤ 122 ∨ 65 ≤ a ∧ a ≤ 90)
def pWord (a : Int) : Bool := pLetter a || pDigit a || decide (a = 95)
def goodName (s : ByteArray) : Bool := decide (1 ≤ s.size ∧ s.size ≤ 30) && !pDigit (bt s 0) && (bytesOf s).all pWord
theorem spec_l1Digit_ev (a : Int) : Ev (fun K _ => spec_l1Digit.f K a) (pDigit a) := by
  refine Ev.fn (fun k => spec_l1Digit.f_eq k a) ?_
  unfold pDigit
  exact Ev.ite (fun _ => Ev.some (by (first | rfl | exact decide_eq_decide.2 (by omega) | exact (decide_eq_false (by omega)).symm | exact (decide_eq_true (by omega)).symm))) fun _ => Ev.some (by (first | rfl | exact decide_eq_decide.2 (by omega) | exact (decide_eq_false (by omega)).symm | exact (decide_eq_true (by omega)).symm))
theorem impl_ydigit_ev (a : Int) : Ev (fun K _ => impl_ydigit.f K a) (pDigit a) := by
  refine Ev.fn (fun k => impl_ydigit.f_eq k a) ?_
  unfold pDigit
  exact Ev.ite (fun _ => Ev.some (by (first | rfl | exact decide_eq_decide.2 (by omega) | exact (decide_eq_false (by omega)).symm | exact (decide_eq_true (by omega)).symm))) fun _ => Ev.some (by (first | rfl | exact decide_eq_decide.2 (by omega) | exact (decide_eq_false (by omega)).symm | exact (decide_eq_true (by omega)).symm))
theorem spec_l1Letter_ev (a : Int) : Ev (fun K _ => spec_l1Letter.f K a) (pLetter a) := by
  refine Ev.fn (fun k => spec_l1Letter.f_eq k a) ?_
  unfold pLetter
  exact Ev.ite (fun _ => Ev.ite (fun _ => Ev.some (by (first | rfl | exact decide_eq_decide.2 (by omega) | exact (decide_eq_false (by omega)).symm | exact (decide_eq_true (by omega)).symm))) fun _ => Ev.ite (fun _ => Ev.some (by (first | rfl | exact decide_eq_decide.2 (by omega) | exact (decide_eq_false (by omega)).symm | exact (decide_eq_true (by omega)).symm))) fun _ => Ev.some (by (first | rfl | exact decide_eq_decide.2 (by omega) | exact (decide_eq_false (by omega)).symm | exact (decide_eq_true (by omega)).symm))) fun _ => Ev.ite (fun _ => Ev.some (by (first | rfl | exact decide_eq_decide.2 (by omega) | exact (decide_eq_false (by omega)).symm | exact (decide_eq_true (by omega)).symm))) fun _ => Ev.some (by (first | rfl | exact decide_eq_decide.2 (by omega) | exact (decide_eq_false (by omega)).symm | exact (decide_eq_true (by omega)).symm))
theorem impl_yletter_ev (a : Int) : Ev (fun K _ => impl_yletter.f K a) (pLetter a) := by
  refine Ev.fn (fun k => impl_yletter.f_eq k a) ?_
  unfold pLetter
  exact Ev.ite (fun _ => Ev.ite (fun _ => Ev.some (by (first | rfl | exact decide_eq_decide.2 (by omega) | exact (decide_eq_false (by omega)).symm | exact (decide_eq_true (by omega)).symm))) fun _ => Ev.ite (fun _ => Ev.some (by (first | rfl | exact decide_eq_decide.2 (by omega) | exact (decide_eq_false (by omega)).symm | exact (decide_eq_true (by omega)).symm))) fun _ => Ev.some (by (first | rfl | exact decide_eq_decide.2 (by omega) | exact (decide_eq_false (by omega)).symm | exact (decide_eq_true (by omega)).symm))) fun _ => Ev.ite (fun _ => Ev.some (by (first | rfl | exact decide_eq_decide.2 (by omega) | exact (decide_eq_false (by omega)).symm | exact (decide_eq_true (by omega)).symm))) fun _ => Ev.some (by (first | rfl | exact decide_eq_decide.2 (by omega) | exact (decide_eq_false (by omega)).symm | exact (decide_eq_true (by omega)).symm))
theorem impl_ywordByte_ev (a : Int) : Ev (fun K _ => impl_ywordByte.f K a) (pWord a) := by
  refine Ev.fn (fun k => impl_ywordByte.f_eq k a) ?_
  unfold pWord
  exact (impl_yletter_ev a).bind (Ev.ite (fun h => Ev.some (by rw [h]; rfl)) fun h => (impl_ydigit_ev a).bind (Ev.ite (fun g => Ev.some (by rw [g]; simp)) fun g => Ev.some (by rw [Bool.eq_false_iff.2 h, Bool.eq_false_iff.2 g]; rfl)))
theorem spec_GoodName_ev (s : ByteArray) (hs : s.size ≤ 140737488351232) : Ev (fun K _ => spec_GoodName.f K s) (goodName s) := by
  refine Ev.fn (fun k => spec_GoodName.f_eq k s) ?_
  unfold goodName
  refine Ev.ite (fun h => Ev.some (by rw [decide_eq_false (by omega)]; rfl)) fun h => Ev.ite (fun h' => Ev.some (by rw [decide_eq_false (by omega)]; rfl)) fun h' => Ev.yes (by omega) ((spec_l1Digit_ev _).bind ?_)
  rw [decide_eq_true (by omega), Bool.true_and]
  refine Ev.ite (fun g => Ev.some (by rw [g]; rfl)) fun g => ?_
  rw [Bool.eq_false_iff.2 g, Bool.not_false, Bool.true_and]
  refine Ev.diag (loop_all (L := fun K j i => spec_GoodName.l14 K j s i) (fun i h hp r hr => ?_) (fun i h hp => ?_) ?_)
  · refine Ev.lp (fun K j => spec_GoodName.l14_eq K j s i) (Ev.yes (by omega) (Ev.yes (by omega) ((spec_l1Letter_ev _).bind ?_)))
    rw [wrap_nat (by omega)]
    refine Ev.ite (fun _ => hr) fun h1 => Ev.yes (by omega) ((spec_l1Digit_ev _).bind (Ev.ite (fun _ => hr) fun h2 => Ev.yes (by omega) (Ev.ite (fun _ => hr) fun h3 => ?_)))
    exfalso
    unfold pWord at hp
    simp [h1, h2, h3] at hp
  · refine Ev.lp (fun K j => spec_GoodName.l14_eq K j s i) (Ev.yes (by omega) (Ev.yes (by omega) ((spec_l1Letter_ev _).bind ?_)))
    unfold pWord at hp
    simp only [Bool.or_eq_false_iff, decide_eq_false_iff_not] at hp
    exact Ev.no (by simp [hp.1.1]) (Ev.yes (by omega) ((spec_l1Digit_ev _).bind (Ev.no (by simp [hp.1.2]) (Ev.yes (by omega) (Ev.no hp.2 (Ev.now _))))))
  · exact Ev.lp (fun K j => spec_GoodName.l14_eq K j s _) (Ev.no (by omega) (Ev.now _))
theorem impl_GoodName_ev (s : ByteArray) (hs : s.size ≤ 140737488351232) : Ev (fun K _ => impl_GoodName.f K s) (goodName s) := by
  refine Ev.fn (fun k => impl_GoodName.f_eq k s) ?_
  unfold goodName
  refine Ev.ite (fun h => Ev.some (by rw [size_nil] at h; rw [decide_eq_false (by omega)]; rfl)) fun h => Ev.ite (fun h' => Ev.some (by rw [decide_eq_false (by omega)]; rfl)) fun h' => ?_
  rw [size_nil] at h
  refine Ev.yes (by omega) ((impl_ydigit_ev _).bind ?_)
  rw [decide_eq_true (by omega), Bool.true_and]
  refine Ev.ite (fun g => Ev.some (by rw [g]; rfl)) fun g => ?_
  rw [Bool.eq_false_iff.2 g, Bool.not_false, Bool.true_and]
  refine Ev.diag (loop_all (L := fun K j i => impl_GoodName.l14 K j s (s.size : Int) i) (fun i h hp r hr => ?_) (fun i h hp => ?_) ?_)
  · refine Ev.lp (fun K j => impl_GoodName.l14_eq K j s _ i) (Ev.yes (by omega) (Ev.yes (by omega) ((impl_ywordByte_ev _).bind (Ev.yes hp ?_))))
    rw [wrap_nat (by omega)]; exact hr
  · exact Ev.lp (fun K j => impl_GoodName.l14_eq K j s _ i) (Ev.yes (by omega) (Ev.yes (by omega) ((impl_ywordByte_ev _).bind (Ev.no (by simp [hp]) (Ev.now _)))))
  · exact Ev.lp (fun K j => impl_GoodName.l14_eq K j s _ _) (Ev.no (by omega) (Ev.now _))

/-! ### values beside their measure -/
theorem wf_range {k : IntKind} {x : Int} (h : k.min ≤ x ∧ x ≤ k.max) : (Lit.int k x).wf = true := by
  simp [Lit.wf]; exact h
theorem fit_dflt : ∀ s : Sh, fitSh s (dflt s)
  | .int k => by cases k <;> rfl
  | .bool => trivial
  | .str => by show (0 : Nat) ≤ _; omega
  | .unit => trivial
  | .pair a b => ⟨fit_dflt a, fit_dflt b⟩
  | .list t => ⟨Nat.zero_le _, fun x hx => by cases hx⟩
theorem fit_rd {t : Sh} {l : List (sem t)} (h : fitSh (.list t) l) (i : Int) : fitSh t (rd (dflt t) l i) := by
  unfold rd
  rw [List.getD_eq_getElem?_getD]
  cases hi : l[i.toNat]? with
  | none => exact fit_dflt t
  | some x => exact h.2 x (List.mem_of_getElem? hi)
theorem fit_cut {t : Sh} {l : List (sem t)} (h : fitSh (.list t) l) (a b : Int) : fitSh (.list t) (cut l a b) := by
  unfold cut
  refine ⟨?_, fun x hx => h.2 x (List.mem_of_mem_take (List.mem_of_mem_drop hx))⟩
  have h1 : l.length ≤ 140737488351232 := h.1
  show List.length _ ≤ _
  rw [List.length_drop, List.length_take]; omega
theorem fit_nil {t : Sh} : fitSh (.list t) ([] : List (sem t)) := ⟨Nat.zero_le _, fun x hx => by cases hx⟩
theorem fit_cons {t : Sh} {x : sem t} {l : List (sem t)} (hx : fitSh t x) (h : allIn (α := sem t) l (fitSh t)) : allIn (α := sem t) (x :: l) (fitSh t) := fun y hy => by
  rcases List.mem_cons.1 hy with rfl | hy
  · exact hx
  · exact h y hy
theorem fit_cutS {s : ByteArray} (h : fitSh .str s) (a b : Int) : fitSh .str (cutS s a b) := by
  have h : s.size ≤ 140737488351232 := h
  show (s.extract a.toNat b.toNat).size ≤ _
  rw [ByteArray.size_extract]; omega
theorem fit_len {n : Nat} (h : n ≤ 140737488351232) : fitSh (.int .i64) (n : Int) := wf_range (by simp only [IntKind.min, IntKind.max, IntKind.signed, IntKind.bits]; constructor <;> simp <;> omega)
theorem fit_wrap (x : Int) : fitSh (.int .i64) (wrap64 x) := wf_range (by simp only [IntKind.min, IntKind.max, IntKind.signed, IntKind.bits]; unfold wrap64; constructor <;> simp <;> omega)
theorem fit_i64 {x : Int} (h : -9223372036854775808 ≤ x ∧ x ≤ 9223372036854775807) : fitSh (.int .i64) x := wf_range (by simp only [IntKind.min, IntKind.max, IntKind.signed, IntKind.bits]; constructor <;> simp <;> omega)
theorem i64_of {x : Int} (h : fitSh (.int .i64) x) : -9223372036854775808 ≤ x ∧ x ≤ 9223372036854775807 := by
  have h : (Lit.int .i64 x).wf = true := h
  simp [Lit.wf, IntKind.min, IntKind.max, IntKind.signed, IntKind.bits] at h
  omega
theorem fit_bytes {s : ByteArray} (h : Nat.ble s.size 140737488351232 = true) : fitSh .str s := Nat.le_of_ble_eq_true h
theorem fit_u8 {x : Int} (h : 0 ≤ x ∧ x ≤ 255) : fitSh (.int .u8) x := wf_range (by simp only [IntKind.min, IntKind.max, IntKind.signed, IntKind.bits]; constructor <;> simp <;> omega)
theorem fit_bt (s : ByteArray) (i : Int) : fitSh (.int .u8) (bt s i) := fit_u8 (bt_range s i)
theorem fit_wfb {k : IntKind} {x : Int} (h : (Lit.int k x).wf = true) : fitSh (.int k) x := h
def EvF (s : Sh) (g : Nat → Nat → Option (sem s)) (r : sem s) : Prop := Ev g r ∧ fitSh s r
section
variable {s s' : Sh} {r : sem s}
theorem EvF.some {a : sem s} (h : a = r) (f : fitSh s r) : EvF s (fun _ _ => Option.some a) r := ⟨Ev.some h, f⟩
theorem EvF.now (f : fitSh s r) : EvF s (fun _ _ => Option.some r) r := ⟨Ev.now r, f⟩
theorem EvF.yes {c : Prop} {inst : Decidable c} {A B : Nat → Nat → Option (sem s)} (h : c) (k : EvF s A r) : EvF s (fun K j => @ite _ c inst (A K j) (B K j)) r := ⟨k.1.congr fun _ _ => if_pos h, k.2⟩
theorem EvF.no {c : Prop} {inst : Decidable c} {A B : Nat → Nat → Option (sem s)} (h : ¬ c) (k : EvF s B r) : EvF s (fun K j => @ite _ c inst (A K j) (B K j)) r := ⟨k.1.congr fun _ _ => if_neg h, k.2⟩
theorem EvF.ite {c : Prop} {inst : Decidable c} {A B : Nat → Nat → Option (sem s)} {x y : sem s} (h : c → EvF s A x) (k : ¬ c → EvF s B y) : EvF s (fun K j => @ite _ c inst (A K j) (B K j)) (@ite _ c inst x y) := by
  by_cases e : c
  · rw [if_pos e]; exact EvF.yes e (h e)
  · rw [if_neg e]; exact EvF.no e (k e)
theorem EvF.bind {g : Nat → Nat → Option (sem s')} {f : Nat → Nat → sem s' → Option (sem s)} {a : sem s'} (h : EvF s' g a) (k : fitSh s' a → EvF s (fun K j => f K j a) r) : EvF s (fun K j => (g K j).bind (f K j)) r :=
  ⟨h.1.bind (k h.2).1, (k h.2).2⟩
theorem EvF.fn {f B : Nat → Option (sem s)} (e : ∀ k, f (k + 1) = B k) (h : EvF s (fun K _ => B K) r) : EvF s (fun K _ => f K) r := ⟨Ev.fn e h.1, h.2⟩
theorem EvF.lp {L B : Nat → Nat → Option (sem s)} (e : ∀ K j, L K (j + 1) = B K j) (h : EvF s B r) : EvF s L r := ⟨Ev.lp e h.1, h.2⟩
theorem EvF.diag {L : Nat → Nat → Option (sem s)} (h : EvF s L r) : EvF s (fun K _ => L K K) r := ⟨Ev.diag h.1, h.2⟩
end
theorem drop_more {α : Type} {l : List α} {i : Nat} {x : α} {r : List α} (h : l.drop i = x :: r) : i < l.length ∧ l.drop (i + 1) = r ∧ ∀ z, rd z l (i : Int) = x := by
  have hi : i < l.length := by
    rcases Nat.lt_or_ge i l.length with q | q
    · exact q
    · rw [List.drop_eq_nil_of_le q] at h; cases h
  rw [List.drop_eq_getElem_cons hi] at h
  obtain ⟨h1, h2⟩ := List.cons.inj h
  exact ⟨hi, h2, fun z => by rw [rd_at z l i hi]; exact h1⟩
theorem drop_none {α : Type} {l : List α} {i : Nat} (h : l.drop i = []) : l.length ≤ i := by
  have := congrArg List.length h
  rw [List.length_drop] at this
  simp at this; omega
theorem bdrop_more {s : ByteArray} {i : Nat} {x : Int} {r : List Int} (h : (bytesOf s).drop i = x :: r) : i < s.size ∧ (bytesOf s).drop (i + 1) = r ∧ bt s (i : Int) = x := by
  have hi : i < s.size := by
    rcases Nat.lt_or_ge i s.size with q | q
    · exact q
    · rw [List.drop_eq_nil_of_le (by rw [bytesOf_length]; exact q)] at h; cases h
  rw [drop_bytes s i hi] at h
  obtain ⟨h1, h2⟩ := List.cons.inj h
  exact ⟨hi, h2, h1⟩
theorem bdrop_none {s : ByteArray} {i : Nat} (h : (bytesOf s).drop i = []) : s.size ≤ i := by
  have := congrArg List.length h
  rw [List.length_drop, bytesOf_length] at this
  simp at this; omega

abbrev spec_GoodName.v (s : ByteArray) : Bool := goodName s
theorem spec_GoodName.v_ev (s : ByteArray) (f : fitSh .str s) : EvF .bool (fun K _ => spec_GoodName.f K s) (spec_GoodName.v s) := ⟨spec_GoodName_ev s f, trivial⟩
abbrev impl_GoodName.v (s : ByteArray) : Bool := goodName s
theorem impl_GoodName.v_ev (s : ByteArray) (f : fitSh .str s) : EvF .bool (fun K _ => impl_GoodName.f K s) (impl_GoodName.v s) := ⟨impl_GoodName_ev s f, trivial⟩

theorem spec_l1CmpNum_ev (a b : Int) : Ev (fun K _ => spec_l1CmpNum.f K a b) (if a < b then -1 else if a > b then 1 else 0) :=
  Ev.fn (fun k => spec_l1CmpNum.f_eq k a b) (Ev.ite (fun h => Ev.some (by rw [if_pos h])) fun h => Ev.ite (fun g => Ev.some (by rw [if_neg h, if_pos g])) fun g => Ev.some (by rw [if_neg h, if_neg g]))
/-! ### the order of texts -/
def cmpL : List Int → List Int → Int
  | [], [] => 0
  | [], _ :: _ => -1
  | _ :: _, [] => 1
  | a :: l, b :: m => if a = b then cmpL l m else if a < b then -1 else 1
def cmpT (s t : ByteArray) : Int := cmpL (bytesOf s) (bytesOf t)
theorem cmpL_refl : ∀ l : List Int, cmpL l l = 0
  | [] => rfl
  | a :: l => by unfold cmpL; rw [if_pos rfl]; exact cmpL_refl l
theorem cmpL_zero : ∀ {l m : List Int}, cmpL l m = 0 → l = m
  | [], [], _ => rfl
  | [], _ :: _, h => by simp [cmpL] at h
  | _ :: _, [], h => by simp [cmpL] at h
  | a :: l, b :: m, h => by
    unfold cmpL at h
    by_cases e : a = b
    · rw [if_pos e] at h
      rw [e, cmpL_zero h]
    · rw [if_neg e] at h
      split at h <;> omega
theorem cmpL_anti : ∀ (l m : List Int), cmpL m l = - cmpL l m
  | [], [] => rfl
  | [], _ :: _ => rfl
  | _ :: _, [] => rfl
  | a :: l, b :: m => by
    unfold cmpL
    by_cases e : a = b
    · rw [if_pos e, if_pos e.symm]; exact cmpL_anti l m
    · rw [if_neg e, if_neg (Ne.symm e)]
      by_cases h : a < b
      · rw [if_pos h, if_neg (by omega)]; rfl
      · rw [if_neg h, if_pos (by omega)]
theorem cmpL_range (l m : List Int) : cmpL l m = -1 ∨ cmpL l m = 0 ∨ cmpL l m = 1 := by
  induction l generalizing m with
  | nil => cases m <;> simp [cmpL]
  | cons a l ih =>
    cases m with
    | nil => simp [cmpL]
    | cons b m =>
      unfold cmpL
      by_cases e : a = b
      · rw [if_pos e]; exact ih m
      · rw [if_neg e]; split <;> simp
theorem bytesOf_inj {s t : ByteArray} (h : bytesOf s = bytesOf t) : s = t := by
  have e : s.data.toList = t.data.toList := by
    unfold bytesOf at h
    have inj : ∀ (l m : List UInt8), l.map (fun b => (b.toNat : Int)) = m.map (fun b => (b.toNat : Int)) → l = m := by
      intro l
      induction l with
      | nil => intro m h; cases m with
        | nil => rfl
        | cons b m => simp at h
      | cons a l ih => intro m h; cases m with
        | nil => simp at h
        | cons b m =>
          simp only [List.map_cons, List.cons.injEq] at h
          obtain ⟨h1, h2⟩ := h
          have h3 : a.toNat = b.toNat := by omega
          rw [ih m h2, UInt8.toNat_inj.1 h3]
    exact inj _ _ h
  cases s; cases t
  simp only [ByteArray.mk.injEq]
  exact Array.ext' e
theorem cmpT_zero {s t : ByteArray} : cmpT s t = 0 ↔ s = t :=
  ⟨fun h => bytesOf_inj (cmpL_zero h), fun h => by rw [h]; exact cmpL_refl _⟩
theorem cmpT_range (s t : ByteArray) : cmpT s t = -1 ∨ cmpT s t = 0 ∨ cmpT s t = 1 := cmpL_range _ _
theorem bytesLess_iff (s t : ByteArray) : Op.bytesLess s.toList t.toList = true ↔ cmpT s t = -1 := by
  rw [ByteArray.toList_eq, ByteArray.toList_eq]
  unfold cmpT bytesOf
  generalize s.data.toList = l
  generalize t.data.toList = m
  induction l generalizing m with
  | nil => cases m <;> simp [Op.bytesLess, cmpL]
  | cons a l ih =>
    cases m with
    | nil => simp [Op.bytesLess, cmpL]
    | cons b m =>
      simp only [List.map_cons]
      unfold cmpL Op.bytesLess
      by_cases e : a = b
      · subst e
        rw [if_pos rfl, ← ih m]
        simp
      · have hne : (a.toNat : Int) ≠ b.toNat := fun h => e (UInt8.toNat_inj.1 (by omega))
        rw [if_neg hne]
        by_cases h : a < b
        · have : (a.toNat : Int) < b.toNat := by have := UInt8.lt_iff_toNat_lt.1 h; omega
          rw [if_pos this]; simp [h]
        · have h' : ¬ (a.toNat : Int) < b.toNat := fun q => h (UInt8.lt_iff_toNat_lt.2 (by omega))
          rw [if_neg h']; simp [h, e]
theorem spec_l1CmpText_l (s t : ByteArray) (hs : s.size ≤ 140737488351232) (ht : t.size ≤ 140737488351232) : ∀ (d i : Nat), s.size = i + d → i ≤ t.size → Ev (fun K j => spec_l1CmpText.l6 K j s t (i : Int)) (cmpL ((bytesOf s).drop i) ((bytesOf t).drop i)) := by
  have bad : ∀ (i : Nat), i ≤ s.size → i ≤ t.size → (i = s.size ∨ i = t.size) → Ev (fun K _ => (spec_l1CmpNum.f K (s.size : Int) (t.size : Int)).bind fun t0 => some t0) (cmpL ((bytesOf s).drop i) ((bytesOf t).drop i)) := by
    intro i h1 h2 h3
    refine (spec_l1CmpNum_ev _ _).bind (Ev.some ?_)
    rcases h3 with rfl | rfl
    · rw [List.drop_eq_nil_of_le (by rw [bytesOf_length]; exact Nat.le_refl _)]
      by_cases h : s.size < t.size
      · rw [if_pos (by omega), drop_bytes t _ h]; rfl
      · rw [if_neg (by omega), if_neg (by omega), List.drop_eq_nil_of_le (by rw [bytesOf_length]; omega)]; rfl
    · have dz : (bytesOf t).drop t.size = [] := List.drop_eq_nil_of_le (by rw [bytesOf_length]; exact Nat.le_refl _)
      rw [dz]
      by_cases h : t.size < s.size
      · rw [if_neg (by omega), if_pos (by omega), drop_bytes s _ h]; rfl
      · rw [if_neg (by omega), if_neg (by omega), List.drop_eq_nil_of_le (by rw [bytesOf_length]; omega)]; rfl
  intro d
  induction d with
  | zero =>
    intro i h h2
    exact Ev.lp (fun K j => spec_l1CmpText.l6_eq K j s t i) (Ev.no (by omega) (bad i (by omega) h2 (Or.inl (by omega))))
  | succ d ih =>
    intro i h h2
    refine Ev.lp (fun K j => spec_l1CmpText.l6_eq K j s t i) (Ev.yes (by omega) ?_)
    by_cases h3 : i < t.size
    · refine Ev.yes (by omega) (Ev.yes (by omega) (Ev.yes (by omega) ?_))
      rw [drop_bytes s i (by omega), drop_bytes t i h3]
      unfold cmpL
      have b1 := bt_range s i
      have b2 := bt_range t i
      refine Ev.ite (fun e => ?_) fun e => Ev.yes (by omega) (Ev.yes (by omega) ((spec_l1CmpNum_ev _ _).bind (Ev.some ?_)))
      · rw [if_pos e, wrap_nat (by omega)]
        exact ih (i + 1) (by omega) (by omega)
      · rw [if_neg e, wrap_id (by omega) (by omega), wrap_id (by omega) (by omega)]
        by_cases hlt : bt s i < bt t i
        · rw [if_pos hlt, if_pos hlt]
        · rw [if_neg hlt, if_neg hlt, if_pos (by omega)]
    · exact Ev.no (by omega) (bad i (by omega) h2 (Or.inr (by omega)))
theorem spec_l1CmpText_ev (s t : ByteArray) (hs : s.size ≤ 140737488351232) (ht : t.size ≤ 140737488351232) : Ev (fun K _ => spec_l1CmpText.f K s t) (cmpT s t) :=
  Ev.fn (fun k => spec_l1CmpText.f_eq k s t) (Ev.diag (spec_l1CmpText_l s t hs ht s.size 0 (by omega) (by omega)))
theorem less_cmp (s t : ByteArray) : (Op.bytesLess s.toList t.toList = true) ↔ cmpT s t < 0 := by
  rw [bytesLess_iff]
  rcases cmpT_range s t with h | h | h <;> rw [h] <;> decide

abbrev spec_l1CmpText.v (s t : ByteArray) : Int := cmpT s t
theorem spec_l1CmpText.v_ev (s t : ByteArray) (f : fitSh .str s) (g : fitSh .str t) : EvF (.int .i64) (fun K _ => spec_l1CmpText.f K s t) (spec_l1CmpText.v s t) := ⟨spec_l1CmpText_ev s t f g, fit_i64 (by rcases cmpT_range s t with h | h | h <;> rw [spec_l1CmpText.v, h] <;> omega)⟩

theorem toAttrType_ev (a : T100) (h : smSh S100 a) : Ev (fun K _ => laws_toAttrType.f K a) a := by
  obtain ⟨q0, q1, q2, _⟩ := h
  exact Ev.fn (fun k => laws_toAttrType.f_eq k a) (Ev.now _)
theorem eqAttrType_ev (a : T100) (h : smSh S100 a) : Ev (fun K _ => laws_eqAttrType.f K a a) true := by
  obtain ⟨q0, q1, q2, _⟩ := h
  exact Ev.fn (fun k => laws_eqAttrType.f_eq k a a) (Ev.yes rfl (Ev.yes rfl (Ev.no (by simp) (Ev.now _))))
theorem szAttrType_ok (a : T100) (m : Int) (h0 : 0 ≤ m) (h1 : m ≤ 1048576) (hf : fitSh S100 a) : SzP (fun K _ => laws_szAttrType.f K a m) m (smSh S100 a) := by
  obtain ⟨q0, q1, q2, _⟩ := hf
  refine SzP.fn (fun k => laws_szAttrType.f_eq k a m) ?_
  have b0 : a.1.size ≤ 140737488351232 := q0
  have w1 := wrap_id (x := m - (a.1.size : Int)) (by omega) (by omega)
  refine SzP.cut (by omega) fun c1 => ?_
  obtain ⟨m1, e1⟩ : ∃ z, z = wrap64 (m - (a.1.size : Int)) := ⟨_, rfl⟩
  simp only [← e1] at c1 w1 ⊢
  exact SzP.now (by omega) (by omega) ⟨(show a.1.size ≤ 1048576 by omega), q1, q2, trivial⟩
theorem toAttrTypeS_ev (l : List T100) (hl : smSh (.list S100) l) : Ev (fun K _ => laws_toAttrTypeS.f K l) l := by
  obtain ⟨hn, hl⟩ := hl
  have hn : l.length ≤ 1048576 := hn
  refine Ev.fn (fun k => laws_toAttrTypeS.f_eq k l) (Ev.yes (by omega) (Ev.yes rfl (Ev.diag (copy_loop (L := fun K j i y => laws_toAttrTypeS.l8 K j l i y) (fun i h y hy r hr => ?_) (fun y => ?_) l.length 0 _ (by omega) (reps_length _ _) rfl))))
  · refine Ev.lp (fun K j => laws_toAttrTypeS.l8_eq K j l i y) (Ev.yes (by omega) ?_)
    rw [rd_at _ _ _ h, wrap_nat (by omega)]
    exact Ev.yes (by omega) ((toAttrType_ev l[i] (hl _ (List.getElem_mem h))).bind (Ev.yes (by omega) hr))
  · exact Ev.lp (fun K j => laws_toAttrTypeS.l8_eq K j l _ y) (Ev.no (by omega) (Ev.now _))
theorem eqAttrTypeS_ev (l : List T100) (hl : smSh (.list S100) l) : Ev (fun K _ => laws_eqAttrTypeS.f K l l) true := by
  obtain ⟨hn, hl⟩ := hl
  have hn : l.length ≤ 1048576 := hn
  refine Ev.fn (fun k => laws_eqAttrTypeS.f_eq k l l) (Ev.yes rfl (Ev.diag (true_loop (L := fun K j i => laws_eqAttrTypeS.l14 K j l l i) (n := l.length) (fun i h r hr => ?_) ?_ l.length 0 (by omega))))
  · refine Ev.lp (fun K j => laws_eqAttrTypeS.l14_eq K j l l i) (Ev.yes (by omega) (Ev.yes (by omega) (Ev.yes (by omega) ((eqAttrType_ev _ (by rw [rd_at _ _ _ h]; exact hl _ (List.getElem_mem h))).bind (Ev.yes rfl ?_)))))
    rw [wrap_nat (by omega)]; exact hr
  · exact Ev.lp (fun K j => laws_eqAttrTypeS.l14_eq K j l l _) (Ev.no (by omega) (Ev.now _))
theorem szAttrTypeS_ok (l : List T100) (m : Int) (h0 : 0 ≤ m) (h1 : m ≤ 1048576) (hf : fitSh (.list S100) l) : SzP (fun K _ => laws_szAttrTypeS.f K l m) m (smSh (.list S100) l) := by
  obtain ⟨hn, hf⟩ := hf
  have hn : l.length ≤ 140737488351232 := hn
  refine SzP.fn (fun k => laws_szAttrTypeS.f_eq k l m) ?_
  rw [wrap_id (x := m - (l.length : Int)) (by omega) (by omega)]
  refine SzP.cut (by omega) fun hc => ?_
  refine (SzP.loop (L := fun K j m i => laws_szAttrTypeS.l16 K j l m i) (sz_row (L := fun K j m i => laws_szAttrTypeS.l16 K j l m i) (l := l) (P := smSh S100) (fun i h m h0 h1 => ?_) (fun m => ?_) l.length 0 (m - l.length) (by omega) (by omega) (by omega)) fun p => ⟨show l.length ≤ 1048576 by omega, fun x hx => p x hx⟩).imp (by omega) fun p => p
  · obtain ⟨r, q, q1, q2, q3⟩ := szAttrType_ok l[i] m h0 h1 (hf _ (List.getElem_mem h))
    refine ⟨r, q1, q2, q3, fun hr => ?_, fun hr s hs => ?_⟩
    · refine Ev.lp (fun K j => laws_szAttrTypeS.l16_eq K j l m i) (Ev.yes (by omega) (Ev.yes (by omega) ?_))
      rw [rd_at _ _ _ h]; exact q.bind (Ev.yes hr (Ev.now _))
    · refine Ev.lp (fun K j => laws_szAttrTypeS.l16_eq K j l m i) (Ev.yes (by omega) (Ev.yes (by omega) ?_))
      rw [rd_at _ _ _ h, wrap_nat (by omega)]; exact q.bind (Ev.no (by omega) hs)
  · exact Ev.lp (fun K j => laws_szAttrTypeS.l16_eq K j l m _) (Ev.no (by omega) (Ev.now _))
theorem toStringS_ev (l : List ByteArray) (hl : smSh (.list .str) l) : Ev (fun K _ => laws_toStringS.f K l) l := by
  obtain ⟨hn, hl⟩ := hl
  have hn : l.length ≤ 1048576 := hn
  refine Ev.fn (fun k => laws_toStringS.f_eq k l) (Ev.yes (by omega) (Ev.yes rfl (Ev.diag (copy_loop (L := fun K j i y => laws_toStringS.l8 K j l i y) (fun i h y hy r hr => ?_) (fun y => ?_) l.length 0 _ (by omega) (reps_length _ _) rfl))))
  · refine Ev.lp (fun K j => laws_toStringS.l8_eq K j l i y) (Ev.yes (by omega) ?_)
    rw [rd_at _ _ _ h, wrap_nat (by omega)]
    exact Ev.yes (by omega) (Ev.yes (by omega) hr)
  · exact Ev.lp (fun K j => laws_toStringS.l8_eq K j l _ y) (Ev.no (by omega) (Ev.now _))
theorem eqStringS_ev (l : List ByteArray) (hl : smSh (.list .str) l) : Ev (fun K _ => laws_eqStringS.f K l l) true := by
  obtain ⟨hn, hl⟩ := hl
  have hn : l.length ≤ 1048576 := hn
  refine Ev.fn (fun k => laws_eqStringS.f_eq k l l) (Ev.yes rfl (Ev.diag (true_loop (L := fun K j i => laws_eqStringS.l14 K j l l i) (n := l.length) (fun i h r hr => ?_) ?_ l.length 0 (by omega))))
  · refine Ev.lp (fun K j => laws_eqStringS.l14_eq K j l l i) (Ev.yes (by omega) (Ev.yes (by omega) (Ev.yes (by omega) (Ev.yes rfl ?_))))
    rw [wrap_nat (by omega)]; exact hr
  · exact Ev.lp (fun K j => laws_eqStringS.l14_eq K j l l _) (Ev.no (by omega) (Ev.now _))
theorem szStringS_ok (l : List ByteArray) (m : Int) (h0 : 0 ≤ m) (h1 : m ≤ 1048576) (hf : fitSh (.list .str) l) : SzP (fun K _ => laws_szStringS.f K l m) m (smSh (.list .str) l) := by
  obtain ⟨hn, hf⟩ := hf
  have hn : l.length ≤ 140737488351232 := hn
  refine SzP.fn (fun k => laws_szStringS.f_eq k l m) ?_
  rw [wrap_id (x := m - (l.length : Int)) (by omega) (by omega)]
  refine SzP.cut (by omega) fun hc => ?_
  refine (SzP.loop (L := fun K j m i => laws_szStringS.l16 K j l m i) (sz_row (L := fun K j m i => laws_szStringS.l16 K j l m i) (l := l) (P := smSh .str) (fun i h m h0 h1 => ?_) (fun m => ?_) l.length 0 (m - l.length) (by omega) (by omega) (by omega)) fun p => ⟨show l.length ≤ 1048576 by omega, fun x hx => p x hx⟩).imp (by omega) fun p => p
  · have b : l[i].size ≤ 140737488351232 := hf _ (List.getElem_mem h)
    have w := wrap_id (x := m - (l[i].size : Int)) (by omega) (by omega)
    refine ⟨if m - (l[i].size : Int) < 0 then -1 else m - (l[i].size : Int), ?_, ?_, ?_, ?_, ?_⟩
    · split <;> omega
    · split <;> omega
    · intro q; show l[i].size ≤ 1048576; split at q <;> omega
    · intro q
      refine Ev.lp (fun K j => laws_szStringS.l16_eq K j l m i) (Ev.yes (by omega) (Ev.yes (by omega) ?_))
      rw [rd_at _ _ _ h, w]
      exact Ev.yes (by split at q <;> omega) (Ev.now _)
    · intro q s hs
      rw [if_neg (by split at q <;> omega)] at hs
      refine Ev.lp (fun K j => laws_szStringS.l16_eq K j l m i) (Ev.yes (by omega) (Ev.yes (by omega) ?_))
      rw [rd_at _ _ _ h, w, wrap_nat (by omega)]
      exact Ev.no (by split at q <;> omega) hs
  · exact Ev.lp (fun K j => laws_szStringS.l16_eq K j l m _) (Ev.no (by omega) (Ev.now _))
theorem toClass_ev (a : T106) (h : smSh S106 a) : Ev (fun K _ => laws_toClass.f K a) a := by
  obtain ⟨q0, q1, q2, q3, _⟩ := h
  exact Ev.fn (fun k => laws_toClass.f_eq k a) ((toStringS_ev _ q2).bind ((toStringS_ev _ q3).bind (Ev.now _)))
theorem eqClass_ev (a : T106) (h : smSh S106 a) : Ev (fun K _ => laws_eqClass.f K a a) true := by
  obtain ⟨q0, q1, q2, q3, _⟩ := h
  exact Ev.fn (fun k => laws_eqClass.f_eq k a a) (Ev.yes rfl (Ev.yes rfl ((eqStringS_ev _ q2).bind (Ev.yes rfl ((eqStringS_ev _ q3).bind (Ev.yes rfl (Ev.now _)))))))
theorem szClass_ok (a : T106) (m : Int) (h0 : 0 ≤ m) (h1 : m ≤ 1048576) (hf : fitSh S106 a) : SzP (fun K _ => laws_szClass.f K a m) m (smSh S106 a) := by
  obtain ⟨q0, q1, q2, q3, _⟩ := hf
  refine SzP.fn (fun k => laws_szClass.f_eq k a m) ?_
  have b0 : a.1.size ≤ 140737488351232 := q0
  have w1 := wrap_id (x := m - (a.1.size : Int)) (by omega) (by omega)
  refine SzP.cut (by omega) fun c1 => ?_
  obtain ⟨m1, e1⟩ : ∃ z, z = wrap64 (m - (a.1.size : Int)) := ⟨_, rfl⟩
  simp only [← e1] at c1 w1 ⊢
  have b1 : a.2.1.size ≤ 140737488351232 := q1
  have w2 := wrap_id (x := m1 - (a.2.1.size : Int)) (by omega) (by omega)
  refine SzP.cut (by omega) fun c2 => ?_
  obtain ⟨m2, e2⟩ : ∃ z, z = wrap64 (m1 - (a.2.1.size : Int)) := ⟨_, rfl⟩
  simp only [← e2] at c2 w2 ⊢
  refine SzP.bind (szStringS_ok _ m2 (by omega) (by omega) q2) (by omega) fun m3 r3 s3 p2 => ?_
  refine SzP.bind (szStringS_ok _ m3 (by omega) (by omega) q3) (by omega) fun m4 r4 s4 p3 => ?_
  exact SzP.now (by omega) (by omega) ⟨(show a.1.size ≤ 1048576 by omega), (show a.2.1.size ≤ 1048576 by omega), p2, p3, trivial⟩
theorem toClassS_ev (l : List T106) (hl : smSh (.list S106) l) : Ev (fun K _ => laws_toClassS.f K l) l := by
  obtain ⟨hn, hl⟩ := hl
  have hn : l.length ≤ 1048576 := hn
  refine Ev.fn (fun k => laws_toClassS.f_eq k l) (Ev.yes (by omega) (Ev.yes rfl (Ev.diag (copy_loop (L := fun K j i y => laws_toClassS.l8 K j l i y) (fun i h y hy r hr => ?_) (fun y => ?_) l.length 0 _ (by omega) (reps_length _ _) rfl))))
  · refine Ev.lp (fun K j => laws_toClassS.l8_eq K j l i y) (Ev.yes (by omega) ?_)
    rw [rd_at _ _ _ h, wrap_nat (by omega)]
    exact Ev.yes (by omega) ((toClass_ev l[i] (hl _ (List.getElem_mem h))).bind (Ev.yes (by omega) hr))
  · exact Ev.lp (fun K j => laws_toClassS.l8_eq K j l _ y) (Ev.no (by omega) (Ev.now _))
theorem eqClassS_ev (l : List T106) (hl : smSh (.list S106) l) : Ev (fun K _ => laws_eqClassS.f K l l) true := by
  obtain ⟨hn, hl⟩ := hl
  have hn : l.length ≤ 1048576 := hn
  refine Ev.fn (fun k => laws_eqClassS.f_eq k l l) (Ev.yes rfl (Ev.diag (true_loop (L := fun K j i => laws_eqClassS.l14 K j l l i) (n := l.length) (fun i h r hr => ?_) ?_ l.length 0 (by omega))))
  · refine Ev.lp (fun K j => laws_eqClassS.l14_eq K j l l i) (Ev.yes (by omega) (Ev.yes (by omega) (Ev.yes (by omega) ((eqClass_ev _ (by rw [rd_at _ _ _ h]; exact hl _ (List.getElem_mem h))).bind (Ev.yes rfl ?_)))))
    rw [wrap_nat (by omega)]; exact hr
  · exact Ev.lp (fun K j => laws_eqClassS.l14_eq K j l l _) (Ev.no (by omega) (Ev.now _))
theorem szClassS_ok (l : List T106) (m : Int) (h0 : 0 ≤ m) (h1 : m ≤ 1048576) (hf : fitSh (.list S106) l) : SzP (fun K _ => laws_szClassS.f K l m) m (smSh (.list S106) l) := by
  obtain ⟨hn, hf⟩ := hf
  have hn : l.length ≤ 140737488351232 := hn
  refine SzP.fn (fun k => laws_szClassS.f_eq k l m) ?_
  rw [wrap_id (x := m - (l.length : Int)) (by omega) (by omega)]
  refine SzP.cut (by omega) fun hc => ?_
  refine (SzP.loop (L := fun K j m i => laws_szClassS.l16 K j l m i) (sz_row (L := fun K j m i => laws_szClassS.l16 K j l m i) (l := l) (P := smSh S106) (fun i h m h0 h1 => ?_) (fun m => ?_) l.length 0 (m - l.length) (by omega) (by omega) (by omega)) fun p => ⟨show l.length ≤ 1048576 by omega, fun x hx => p x hx⟩).imp (by omega) fun p => p
  · obtain ⟨r, q, q1, q2, q3⟩ := szClass_ok l[i] m h0 h1 (hf _ (List.getElem_mem h))
    refine ⟨r, q1, q2, q3, fun hr => ?_, fun hr s hs => ?_⟩
    · refine Ev.lp (fun K j => laws_szClassS.l16_eq K j l m i) (Ev.yes (by omega) (Ev.yes (by omega) ?_))
      rw [rd_at _ _ _ h]; exact q.bind (Ev.yes hr (Ev.now _))
    · refine Ev.lp (fun K j => laws_szClassS.l16_eq K j l m i) (Ev.yes (by omega) (Ev.yes (by omega) ?_))
      rw [rd_at _ _ _ h, wrap_nat (by omega)]; exact q.bind (Ev.no (by omega) hs)
  · exact Ev.lp (fun K j => laws_szClassS.l16_eq K j l m _) (Ev.no (by omega) (Ev.now _))
theorem toDirSchema_ev (a : T61) (h : smSh S61 a) : Ev (fun K _ => laws_toDirSchema.f K a) a := by
  obtain ⟨q0, q1, _⟩ := h
  exact Ev.fn (fun k => laws_toDirSchema.f_eq k a) ((toAttrTypeS_ev _ q0).bind ((toClassS_ev _ q1).bind (Ev.now _)))
theorem eqDirSchema_ev (a : T61) (h : smSh S61 a) : Ev (fun K _ => laws_eqDirSchema.f K a a) true := by
  obtain ⟨q0, q1, _⟩ := h
  exact Ev.fn (fun k => laws_eqDirSchema.f_eq k a a) ((eqAttrTypeS_ev _ q0).bind (Ev.yes rfl ((eqClassS_ev _ q1).bind (Ev.yes rfl (Ev.now _)))))
theorem szDirSchema_ok (a : T61) (m : Int) (h0 : 0 ≤ m) (h1 : m ≤ 1048576) (hf : fitSh S61 a) : SzP (fun K _ => laws_szDirSchema.f K a m) m (smSh S61 a) := by
  obtain ⟨q0, q1, _⟩ := hf
  refine SzP.fn (fun k => laws_szDirSchema.f_eq k a m) ?_
  refine SzP.bind (szAttrTypeS_ok _ m (by omega) (by omega) q0) (by omega) fun m1 r1 s1 p0 => ?_
  refine SzP.bind (szClassS_ok _ m1 (by omega) (by omega) q1) (by omega) fun m2 r2 s2 p1 => ?_
  exact SzP.now (by omega) (by omega) ⟨p0, p1, trivial⟩

def spec_l3Type.l6.v (x1 : ByteArray)  : List T100 → Nat → (T100 × (Bool × Unit))
  | [], i => (((⟨#[]⟩ : ByteArray), (0, (false, ()))), (false, ()))
  | e :: rest, i => (if e.1.toList = x1.toList then (e, (true, ())) else (spec_l3Type.l6.v x1 rest (i + 1)))
theorem spec_l3Type.l6.v_ev (x1 : ByteArray) (x9 : (List T100)) (y0_0 : ByteArray) (y0_1 : Int) (y0_2 : Bool) (f_x1 : fitSh .str x1) (f_x9 : fitSh (.list S100) x9) (f_y0_0 : fitSh .str y0_0) (f_y0_1 : fitSh (.int .i64) y0_1) (f_y0_2 : fitSh .bool y0_2)  : ∀ (rest : List T100) (i : Nat)  , x9.drop i = rest → EvF (.pair S100 (.pair .bool .unit)) (fun K j => spec_l3Type.l6 K j x1 x9 (x9.length : Int) (i : Int) y0_0 y0_1 y0_2) (spec_l3Type.l6.v x1 rest i ) := by
  have bX : x9.length ≤ 140737488351232 := f_x9.1
  intro rest
  induction rest with
  | nil =>
    intro i hd
    have hz := drop_none hd
    unfold spec_l3Type.l6.v
    exact EvF.lp (fun K j => spec_l3Type.l6_eq K j x1 x9 (x9.length : Int) (i : Int) y0_0 y0_1 y0_2) (EvF.no (by omega) (EvF.now (⟨⟨(fit_bytes rfl), ⟨(fit_wfb rfl), ⟨trivial, trivial⟩⟩⟩, ⟨trivial, trivial⟩⟩)))
  | cons e rest ih =>
    intro i hd
    obtain ⟨hlt, hd2, hx⟩ := drop_more hd
    have f_e : fitSh S100 e := hx (dflt S100) ▸ fit_rd f_x9 _
    have f_i : fitSh (.int .i64) (i : Int) := fit_len (by omega)
    unfold spec_l3Type.l6.v
    refine EvF.lp (fun K j => spec_l3Type.l6_eq K j x1 x9 (x9.length : Int) (i : Int) y0_0 y0_1 y0_2) (EvF.yes (by omega) ?_)
    try rw [hx]
    try rw [wrap_nat (i := i) (by omega)]
    exact (EvF.yes (by first | omega | (simp only [wrap64] at *; omega)) (EvF.ite (fun h0 => (EvF.now (⟨⟨f_e.1, ⟨f_e.2.1, ⟨trivial, trivial⟩⟩⟩, ⟨trivial, trivial⟩⟩))) fun h0 => (ih (i + 1)   hd2)))
def spec_l3Type.v (a0 : T61) (a1 : ByteArray) : (T100 × (Bool × Unit)) :=
  (spec_l3Type.l6.v a1 a0.1 0)
theorem spec_l3Type.v_ev (a0 : T61) (a1 : ByteArray) (f_a0 : fitSh S61 a0) (f_a1 : fitSh .str a1) : EvF (.pair S100 (.pair .bool .unit)) (fun K _ => spec_l3Type.f K a0 a1) (spec_l3Type.v a0 a1) := by
  unfold spec_l3Type.v
  exact EvF.fn (fun k => spec_l3Type.f_eq k a0 a1) (EvF.diag (spec_l3Type.l6.v_ev a1 a0.1 (⟨#[]⟩ : ByteArray) 0 false (f_a1) (f_a0.1) ((fit_bytes rfl)) ((fit_wfb rfl)) (trivial)  _ 0    rfl))

def spec_l3Class.l6.v (x1 : ByteArray)  : List T106 → Nat → (T106 × (Bool × Unit))
  | [], i => (((⟨#[]⟩ : ByteArray), ((⟨#[]⟩ : ByteArray), (([] : List ByteArray), (([] : List ByteArray), ())))), (false, ()))
  | e :: rest, i => (if e.1.toList = x1.toList then (e, (true, ())) else (spec_l3Class.l6.v x1 rest (i + 1)))
theorem spec_l3Class.l6.v_ev (x1 : ByteArray) (x9 : (List T106)) (y0_0 : ByteArray) (y0_1 : ByteArray) (f_x1 : fitSh .str x1) (f_x9 : fitSh (.list S106) x9) (f_y0_0 : fitSh .str y0_0) (f_y0_1 : fitSh .str y0_1)  : ∀ (rest : List T106) (i : Nat)  , x9.drop i = rest → EvF (.pair S106 (.pair .bool .unit)) (fun K j => spec_l3Class.l6 K j x1 x9 (x9.length : Int) (i : Int) y0_0 y0_1) (spec_l3Class.l6.v x1 rest i ) := by
  have bX : x9.length ≤ 140737488351232 := f_x9.1
  intro rest
  induction rest with
  | nil =>
    intro i hd
    have hz := drop_none hd
    unfold spec_l3Class.l6.v
    exact EvF.lp (fun K j => spec_l3Class.l6_eq K j x1 x9 (x9.length : Int) (i : Int) y0_0 y0_1) (EvF.no (by omega) (EvF.now (⟨⟨(fit_bytes rfl), ⟨(fit_bytes rfl), ⟨fit_nil, ⟨fit_nil, trivial⟩⟩⟩⟩, ⟨trivial, trivial⟩⟩)))
  | cons e rest ih =>
    intro i hd
    obtain ⟨hlt, hd2, hx⟩ := drop_more hd
    have f_e : fitSh S106 e := hx (dflt S106) ▸ fit_rd f_x9 _
    have f_i : fitSh (.int .i64) (i : Int) := fit_len (by omega)
    unfold spec_l3Class.l6.v
    refine EvF.lp (fun K j => spec_l3Class.l6_eq K j x1 x9 (x9.length : Int) (i : Int) y0_0 y0_1) (EvF.yes (by omega) ?_)
    try rw [hx]
    try rw [wrap_nat (i := i) (by omega)]
    exact (EvF.yes (by first | omega | (simp only [wrap64] at *; omega)) (EvF.ite (fun h0 => (EvF.now (⟨f_e, ⟨trivial, trivial⟩⟩))) fun h0 => (ih (i + 1)   hd2)))
def spec_l3Class.v (a0 : T61) (a1 : ByteArray) : (T106 × (Bool × Unit)) :=
  (spec_l3Class.l6.v a1 a0.2.1 0)
theorem spec_l3Class.v_ev (a0 : T61) (a1 : ByteArray) (f_a0 : fitSh S61 a0) (f_a1 : fitSh .str a1) : EvF (.pair S106 (.pair .bool .unit)) (fun K _ => spec_l3Class.f K a0 a1) (spec_l3Class.v a0 a1) := by
  unfold spec_l3Class.v
  exact EvF.fn (fun k => spec_l3Class.f_eq k a0 a1) (EvF.diag (spec_l3Class.l6.v_ev a1 a0.2.1 (⟨#[]⟩ : ByteArray) (⟨#[]⟩ : ByteArray) (f_a1) (f_a0.2.1) ((fit_bytes rfl)) ((fit_bytes rfl))  _ 0    rfl))

def spec_l3Rising.l6.v (x0 : (List ByteArray))  : List ByteArray → Nat → Bool
  | [], i => true
  | e :: rest, i => (let t0 := spec_l1CmpText.v (rd (⟨#[]⟩ : ByteArray) x0 (wrap64 ((i : Int) - 1))) e; (if (t0 : Int) ≥ 0 then false else (spec_l3Rising.l6.v x0 rest (i + 1))))
theorem spec_l3Rising.l6.v_ev (x0 : (List ByteArray)) (f_x0 : fitSh (.list .str) x0)  : ∀ (rest : List ByteArray) (i : Nat)  , 1 ≤ i → x0.drop i = rest → EvF .bool (fun K j => spec_l3Rising.l6 K j x0 (i : Int)) (spec_l3Rising.l6.v x0 rest i ) := by
  have bX : x0.length ≤ 140737488351232 := f_x0.1
  intro rest
  induction rest with
  | nil =>
    intro i hlo hd
    have hz := drop_none hd
    unfold spec_l3Rising.l6.v
    exact EvF.lp (fun K j => spec_l3Rising.l6_eq K j x0 (i : Int)) (EvF.no (by omega) (EvF.now (trivial)))
  | cons e rest ih =>
    intro i hlo hd
    obtain ⟨hlt, hd2, hx⟩ := drop_more hd
    have f_e : fitSh .str e := hx (dflt .str) ▸ fit_rd f_x0 _
    have f_i : fitSh (.int .i64) (i : Int) := fit_len (by omega)
    unfold spec_l3Rising.l6.v
    refine EvF.lp (fun K j => spec_l3Rising.l6_eq K j x0 (i : Int)) (EvF.yes (by omega) ?_)
    try rw [hx]
    try rw [wrap_nat (i := i) (by omega)]
    exact (EvF.yes (by first | omega | (simp only [wrap64] at *; omega)) (EvF.yes (by first | omega | (simp only [wrap64] at *; omega)) (EvF.bind (spec_l1CmpText.v_ev _ _ ((fit_rd (f_x0) _)) (f_e)) fun f_t0 => (EvF.ite (fun h0 => (EvF.now (trivial))) fun h0 => (ih (i + 1)   (by omega) hd2)))))
def spec_l3Rising.v (a0 : (List ByteArray)) : Bool :=
  (spec_l3Rising.l6.v a0 (a0.drop 1) 1)
theorem spec_l3Rising.v_ev (a0 : (List ByteArray)) (f_a0 : fitSh (.list .str) a0) : EvF .bool (fun K _ => spec_l3Rising.f K a0) (spec_l3Rising.v a0) := by
  unfold spec_l3Rising.v
  exact EvF.fn (fun k => spec_l3Rising.f_eq k a0) (EvF.diag (spec_l3Rising.l6.v_ev a0 (f_a0)  _ 1   (by omega) rfl))

def impl_yrising.l6.v (x5 : (List ByteArray))  : List ByteArray → Nat → Bool
  | [], i => true
  | e :: rest, i => (if ((i : Int) : Int) > 0 then (if (Op.bytesLess (rd (⟨#[]⟩ : ByteArray) x5 (wrap64 ((i : Int) - 1))).toList e.toList) = true then (impl_yrising.l6.v x5 rest (i + 1)) else false) else (impl_yrising.l6.v x5 rest (i + 1)))
theorem impl_yrising.l6.v_ev (x5 : (List ByteArray)) (f_x5 : fitSh (.list .str) x5)  : ∀ (rest : List ByteArray) (i : Nat)  , x5.drop i = rest → EvF .bool (fun K j => impl_yrising.l6 K j x5 x5 (x5.length : Int) (i : Int)) (impl_yrising.l6.v x5 rest i ) := by
  have bX : x5.length ≤ 140737488351232 := f_x5.1
  intro rest
  induction rest with
  | nil =>
    intro i hd
    have hz := drop_none hd
    unfold impl_yrising.l6.v
    exact EvF.lp (fun K j => impl_yrising.l6_eq K j x5 x5 (x5.length : Int) (i : Int)) (EvF.no (by omega) (EvF.now (trivial)))
  | cons e rest ih =>
    intro i hd
    obtain ⟨hlt, hd2, hx⟩ := drop_more hd
    have f_e : fitSh .str e := hx (dflt .str) ▸ fit_rd f_x5 _
    have f_i : fitSh (.int .i64) (i : Int) := fit_len (by omega)
    unfold impl_yrising.l6.v
    refine EvF.lp (fun K j => impl_yrising.l6_eq K j x5 x5 (x5.length : Int) (i : Int)) (EvF.yes (by omega) ?_)
    try rw [hx]
    try rw [wrap_nat (i := i) (by omega)]
    exact (EvF.yes (by first | omega | (simp only [wrap64] at *; omega)) (EvF.ite (fun h0 => (EvF.yes (by first | omega | (simp only [wrap64] at *; omega)) (EvF.ite (fun h1 => (ih (i + 1)   hd2)) fun h1 => (EvF.now (trivial))))) fun h0 => (ih (i + 1)   hd2)))
def impl_yrising.v (a0 : (List ByteArray)) : Bool :=
  (impl_yrising.l6.v a0 a0 0)
theorem impl_yrising.v_ev (a0 : (List ByteArray)) (f_a0 : fitSh (.list .str) a0) : EvF .bool (fun K _ => impl_yrising.f K a0) (impl_yrising.v a0) := by
  unfold impl_yrising.v
  exact EvF.fn (fun k => impl_yrising.f_eq k a0) (EvF.diag (impl_yrising.l6.v_ev a0 (f_a0)  _ 0    rfl))

def impl_DirSchema_yattrType_1.v (a0 : T100) : ByteArray :=
  a0.1
theorem impl_DirSchema_yattrType_1.v_ev (a0 : T100) (f_a0 : fitSh S100 a0) : EvF .str (fun K _ => impl_DirSchema_yattrType_1.f K a0) (impl_DirSchema_yattrType_1.v a0) := by
  unfold impl_DirSchema_yattrType_1.v
  exact EvF.fn (fun k => impl_DirSchema_yattrType_1.f_eq k a0) (EvF.now (f_a0.1))
def impl_yfind_impl_AttrType.l6.v (x2 : ByteArray)  : List T100 → Nat → (T100 × (Bool × Unit))
  | [], i => (((⟨#[]⟩ : ByteArray), (0, (false, ()))), (false, ()))
  | e :: rest, i => (let t0 := impl_DirSchema_yattrType_1.v e; (if t0.toList = x2.toList then (e, (true, ())) else (impl_yfind_impl_AttrType.l6.v x2 rest (i + 1))))
theorem impl_yfind_impl_AttrType.l6.v_ev (x2 : ByteArray) (x11 : (List T100)) (y0_0 : ByteArray) (y0_1 : Int) (y0_2 : Bool) (f_x2 : fitSh .str x2) (f_x11 : fitSh (.list S100) x11) (f_y0_0 : fitSh .str y0_0) (f_y0_1 : fitSh (.int .i64) y0_1) (f_y0_2 : fitSh .bool y0_2)  : ∀ (rest : List T100) (i : Nat)  , x11.drop i = rest → EvF (.pair S100 (.pair .bool .unit)) (fun K j => impl_yfind_impl_AttrType.l6 K j x2 x11 (x11.length : Int) (i : Int) y0_0 y0_1 y0_2) (impl_yfind_impl_AttrType.l6.v x2 rest i ) := by
  have bX : x11.length ≤ 140737488351232 := f_x11.1
  intro rest
  induction rest with
  | nil =>
    intro i hd
    have hz := drop_none hd
    unfold impl_yfind_impl_AttrType.l6.v
    exact EvF.lp (fun K j => impl_yfind_impl_AttrType.l6_eq K j x2 x11 (x11.length : Int) (i : Int) y0_0 y0_1 y0_2) (EvF.no (by omega) (EvF.now (⟨⟨(fit_bytes rfl), ⟨(fit_wfb rfl), ⟨trivial, trivial⟩⟩⟩, ⟨trivial, trivial⟩⟩)))
  | cons e rest ih =>
    intro i hd
    obtain ⟨hlt, hd2, hx⟩ := drop_more hd
    have f_e : fitSh S100 e := hx (dflt S100) ▸ fit_rd f_x11 _
    have f_i : fitSh (.int .i64) (i : Int) := fit_len (by omega)
    unfold impl_yfind_impl_AttrType.l6.v
    refine EvF.lp (fun K j => impl_yfind_impl_AttrType.l6_eq K j x2 x11 (x11.length : Int) (i : Int) y0_0 y0_1 y0_2) (EvF.yes (by omega) ?_)
    try rw [hx]
    try rw [wrap_nat (i := i) (by omega)]
    exact (EvF.yes (by first | omega | (simp only [wrap64] at *; omega)) (EvF.bind (impl_DirSchema_yattrType_1.v_ev _ (⟨f_e.1, ⟨f_e.2.1, ⟨trivial, trivial⟩⟩⟩)) fun f_t0 => (EvF.ite (fun h0 => (EvF.now (⟨⟨f_e.1, ⟨f_e.2.1, ⟨trivial, trivial⟩⟩⟩, ⟨trivial, trivial⟩⟩))) fun h0 => (ih (i + 1)   hd2))))
def impl_yfind_impl_AttrType.v (a0 : (List T100)) (a1 : ByteArray) : (T100 × (Bool × Unit)) :=
  (impl_yfind_impl_AttrType.l6.v a1 a0 0)
theorem impl_yfind_impl_AttrType.v_ev (a0 : (List T100)) (a1 : ByteArray) (f_a0 : fitSh (.list S100) a0) (f_a1 : fitSh .str a1) : EvF (.pair S100 (.pair .bool .unit)) (fun K _ => impl_yfind_impl_AttrType.f K a0 a1) (impl_yfind_impl_AttrType.v a0 a1) := by
  unfold impl_yfind_impl_AttrType.v
  exact EvF.fn (fun k => impl_yfind_impl_AttrType.f_eq k a0 a1) (EvF.diag (impl_yfind_impl_AttrType.l6.v_ev a1 a0 (⟨#[]⟩ : ByteArray) 0 false (f_a1) (f_a0) ((fit_bytes rfl)) ((fit_wfb rfl)) (trivial)  _ 0    rfl))
def impl_DirSchema_yattrType.v (a0 : T61) (a1 : ByteArray) : (T100 × (Bool × Unit)) :=
  (let t0 := impl_yfind_impl_AttrType.v a0.1 a1; t0)
theorem impl_DirSchema_yattrType.v_ev (a0 : T61) (a1 : ByteArray) (f_a0 : fitSh S61 a0) (f_a1 : fitSh .str a1) : EvF (.pair S100 (.pair .bool .unit)) (fun K _ => impl_DirSchema_yattrType.f K a0 a1) (impl_DirSchema_yattrType.v a0 a1) := by
  unfold impl_DirSchema_yattrType.v
  exact EvF.fn (fun k => impl_DirSchema_yattrType.f_eq k a0 a1) (EvF.bind (impl_yfind_impl_AttrType.v_ev _ _ (f_a0.1) (f_a1)) fun f_t0 => (EvF.now (⟨⟨f_t0.1.1, ⟨f_t0.1.2.1, ⟨trivial, trivial⟩⟩⟩, ⟨trivial, trivial⟩⟩)))

def impl_DirSchema_yclass_1.v (a0 : T106) : ByteArray :=
  a0.1
theorem impl_DirSchema_yclass_1.v_ev (a0 : T106) (f_a0 : fitSh S106 a0) : EvF .str (fun K _ => impl_DirSchema_yclass_1.f K a0) (impl_DirSchema_yclass_1.v a0) := by
  unfold impl_DirSchema_yclass_1.v
  exact EvF.fn (fun k => impl_DirSchema_yclass_1.f_eq k a0) (EvF.now (f_a0.1))
def impl_yfind_impl_Class.l6.v (x2 : ByteArray)  : List T106 → Nat → (T106 × (Bool × Unit))
  | [], i => (((⟨#[]⟩ : ByteArray), ((⟨#[]⟩ : ByteArray), (([] : List ByteArray), (([] : List ByteArray), ())))), (false, ()))
  | e :: rest, i => (let t0 := impl_DirSchema_yclass_1.v e; (if t0.toList = x2.toList then (e, (true, ())) else (impl_yfind_impl_Class.l6.v x2 rest (i + 1))))
theorem impl_yfind_impl_Class.l6.v_ev (x2 : ByteArray) (x11 : (List T106)) (y0_0 : ByteArray) (y0_1 : ByteArray) (f_x2 : fitSh .str x2) (f_x11 : fitSh (.list S106) x11) (f_y0_0 : fitSh .str y0_0) (f_y0_1 : fitSh .str y0_1)  : ∀ (rest : List T106) (i : Nat)  , x11.drop i = rest → EvF (.pair S106 (.pair .bool .unit)) (fun K j => impl_yfind_impl_Class.l6 K j x2 x11 (x11.length : Int) (i : Int) y0_0 y0_1) (impl_yfind_impl_Class.l6.v x2 rest i ) := by
  have bX : x11.length ≤ 140737488351232 := f_x11.1
  intro rest
  induction rest with
  | nil =>
    intro i hd
    have hz := drop_none hd
    unfold impl_yfind_impl_Class.l6.v
    exact EvF.lp (fun K j => impl_yfind_impl_Class.l6_eq K j x2 x11 (x11.length : Int) (i : Int) y0_0 y0_1) (EvF.no (by omega) (EvF.now (⟨⟨(fit_bytes rfl), ⟨(fit_bytes rfl), ⟨fit_nil, ⟨fit_nil, trivial⟩⟩⟩⟩, ⟨trivial, trivial⟩⟩)))
  | cons e rest ih =>
    intro i hd
    obtain ⟨hlt, hd2, hx⟩ := drop_more hd
    have f_e : fitSh S106 e := hx (dflt S106) ▸ fit_rd f_x11 _
    have f_i : fitSh (.int .i64) (i : Int) := fit_len (by omega)
    unfold impl_yfind_impl_Class.l6.v
    refine EvF.lp (fun K j => impl_yfind_impl_Class.l6_eq K j x2 x11 (x11.length : Int) (i : Int) y0_0 y0_1) (EvF.yes (by omega) ?_)
    try rw [hx]
    try rw [wrap_nat (i := i) (by omega)]
    exact (EvF.yes (by first | omega | (simp only [wrap64] at *; omega)) (EvF.bind (impl_DirSchema_yclass_1.v_ev _ (f_e)) fun f_t0 => (EvF.ite (fun h0 => (EvF.now (⟨f_e, ⟨trivial, trivial⟩⟩))) fun h0 => (ih (i + 1)   hd2))))
def impl_yfind_impl_Class.v (a0 : (List T106)) (a1 : ByteArray) : (T106 × (Bool × Unit)) :=
  (impl_yfind_impl_Class.l6.v a1 a0 0)
theorem impl_yfind_impl_Class.v_ev (a0 : (List T106)) (a1 : ByteArray) (f_a0 : fitSh (.list S106) a0) (f_a1 : fitSh .str a1) : EvF (.pair S106 (.pair .bool .unit)) (fun K _ => impl_yfind_impl_Class.f K a0 a1) (impl_yfind_impl_Class.v a0 a1) := by
  unfold impl_yfind_impl_Class.v
  exact EvF.fn (fun k => impl_yfind_impl_Class.f_eq k a0 a1) (EvF.diag (impl_yfind_impl_Class.l6.v_ev a1 a0 (⟨#[]⟩ : ByteArray) (⟨#[]⟩ : ByteArray) (f_a1) (f_a0) ((fit_bytes rfl)) ((fit_bytes rfl))  _ 0    rfl))
def impl_DirSchema_yclass.v (a0 : T61) (a1 : ByteArray) : (T106 × (Bool × Unit)) :=
  (let t0 := impl_yfind_impl_Class.v a0.2.1 a1; t0)
theorem impl_DirSchema_yclass.v_ev (a0 : T61) (a1 : ByteArray) (f_a0 : fitSh S61 a0) (f_a1 : fitSh .str a1) : EvF (.pair S106 (.pair .bool .unit)) (fun K _ => impl_DirSchema_yclass.f K a0 a1) (impl_DirSchema_yclass.v a0 a1) := by
  unfold impl_DirSchema_yclass.v
  exact EvF.fn (fun k => impl_DirSchema_yclass.f_eq k a0 a1) (EvF.bind (impl_yfind_impl_Class.v_ev _ _ (f_a0.2.1) (f_a1)) fun f_t0 => (EvF.now (⟨f_t0.1, ⟨trivial, trivial⟩⟩)))

/-! ### going up -/
def chain (f : ByteArray → ByteArray × Bool) (b : Int) : Nat → ByteArray → Int → Bool
  | 0, _, _ => false
  | d + 1, s, n => if s.toList = (⟨#[]⟩ : ByteArray).toList then true else if (f s).2 = true then (if n > b then false else chain f b d (f s).1 (n + 1)) else false
theorem chain_fit {σ : Type} {L : Nat → Nat → σ → Int → Option Bool} {z : Bool} {f : ByteArray → ByteArray × Bool} {b : Int} {up : σ → ByteArray} {ok : σ → Prop}
    (step : ∀ s n, ok s → -9223372036854775808 ≤ n → (up s).toList ≠ (⟨#[]⟩ : ByteArray).toList → ((f (up s)).2 = false → Ev (fun K j => L K j s n) false) ∧ ((f (up s)).2 = true → n > b → Ev (fun K j => L K j s n) false) ∧
      ((f (up s)).2 = true → ¬ n > b → ∃ s', ok s' ∧ up s' = (f (up s)).1 ∧ ∀ r, Ev (fun K j => L K j s' (n + 1)) r → Ev (fun K j => L K j s n) r))
    (done : ∀ s n, ok s → (up s).toList = (⟨#[]⟩ : ByteArray).toList → Ev (fun K j => L K j s n) z) : ∀ (d : Nat) (s : σ) (n : Int), ok s → -9223372036854775808 ≤ n → b + 2 ≤ n + d → 1 ≤ d → Ev (fun K j => L K j s n) (if chain f b d (up s) n = true then z else false) := by
  intro d
  induction d with
  | zero => intro s n _ _ h1 h2; omega
  | succ d ih =>
    intro s n hs h0 h1 h2
    unfold chain
    by_cases e : (up s).toList = (⟨#[]⟩ : ByteArray).toList
    · rw [if_pos e, if_pos rfl]; exact done s n hs e
    · rw [if_neg e]
      obtain ⟨p, q, g⟩ := step s n hs h0 e
      cases hf : (f (up s)).2 with
      | false => simp only [Bool.false_eq_true, if_false]; exact p hf
      | true =>
        simp only [if_true]
        by_cases hn : n > b
        · simp only [if_pos hn, Bool.false_eq_true, if_false]; exact q hf hn
        · simp only [if_neg hn]
          obtain ⟨s', g1, g2, g3⟩ := g hf hn
          rw [← g2]
          exact g3 _ (ih _ _ g1 (by omega) (by omega) (by omega))
def specUp (y0_0 : List T100) (y0_1 : List T106) (s : ByteArray) : ByteArray × Bool := ((spec_l3Class.v (y0_0, y0_1, ()) s).1.2.1, (spec_l3Class.v (y0_0, y0_1, ()) s).2.1)
def spec_GoodDirSchema.l111.v (x15 : ByteArray) (x16 : Int) (x86 : List T106) (x87 x88 : Int) (y0_0 : List T100) (y0_1 : List T106) (z47 : Bool) : Bool :=
  if chain (specUp y0_0 y0_1) (y0_1.length : Int) ((y0_1.length + 2 - x16).toNat + 1) x15 x16 = true then z47 else false
theorem spec_GoodDirSchema.l111.v_ev (x15 : ByteArray) (x16 : Int) (x86 : List T106) (x87 x88 : Int) (y0_0 : List T100) (y0_1 : List T106) (f_x15 : fitSh .str x15) (f_x16 : fitSh (.int .i64) x16) (f_x86 : fitSh (.list S106) x86) (f_x87 : fitSh (.int .i64) x87) (f_x88 : fitSh (.int .i64) x88)
    (f_y0_0 : fitSh (.list S100) y0_0) (f_y0_1 : fitSh (.list S106) y0_1) (z47 : Bool) (hz47 : EvF .bool (fun K j => spec_GoodDirSchema.l47 K j x86 x87 (wrap64 (x88 + 1)) y0_0 y0_1) z47) :
    EvF .bool (fun K j => spec_GoodDirSchema.l111 K j x15 x16 x86 x87 x88 y0_0 y0_1) (spec_GoodDirSchema.l111.v x15 x16 x86 x87 x88 y0_0 y0_1 z47) := by
  have b16 := i64_of f_x16
  refine ⟨?_, trivial⟩
  have bl : y0_1.length ≤ 140737488351232 := f_y0_1.1
  refine chain_fit (L := fun K j s n => spec_GoodDirSchema.l111 K j s n x86 x87 x88 y0_0 y0_1) (up := fun s => s) (ok := fun s => fitSh .str s) (b := (y0_1.length : Int)) (fun s n hs h0 he => ?_) (fun s n hs he => Ev.lp (fun K j => spec_GoodDirSchema.l111_eq K j s n x86 x87 x88 y0_0 y0_1) (Ev.yes he hz47.1)) _ x15 x16 f_x15 (by omega) (by omega) (by omega)
  obtain ⟨c, fc⟩ := spec_l3Class.v_ev (y0_0, y0_1, ()) s ⟨f_y0_0, f_y0_1, trivial⟩ hs
  refine ⟨fun hf => ?_, fun hf hn => ?_, fun hf hn => ⟨_, fc.1.2.1, rfl, fun r hr => ?_⟩⟩
  · exact Ev.lp (fun K j => spec_GoodDirSchema.l111_eq K j s n x86 x87 x88 y0_0 y0_1) (Ev.no he (c.bind (Ev.no (by rw [show (spec_l3Class.v (y0_0, y0_1, ()) s).2.1 = false from hf]; simp) (Ev.now _))))
  · exact Ev.lp (fun K j => spec_GoodDirSchema.l111_eq K j s n x86 x87 x88 y0_0 y0_1) (Ev.no he (c.bind (Ev.yes hf (Ev.yes hn (Ev.now _)))))
  · refine Ev.lp (fun K j => spec_GoodDirSchema.l111_eq K j s n x86 x87 x88 y0_0 y0_1) (Ev.no he (c.bind (Ev.yes hf (Ev.no hn ?_))))
    rw [wrap_id (by omega) (by omega)]; exact hr
def implUp (y0_0 : List T100) (y0_1 : List T106) (s : ByteArray) : ByteArray × Bool := ((impl_DirSchema_yclass.v (y0_0, y0_1, ()) s).1.2.1, (impl_DirSchema_yclass.v (y0_0, y0_1, ()) s).2.1)
def impl_GoodDirSchema.l119.v (x16 : Int) (x84 : List T106) (x85 x86 : Int) (y0_0 : List T100) (y0_1 : List T106) (y1_0 y1_1 : ByteArray) (y1_2 y1_3 : List ByteArray) (z47 : Bool) : Bool :=
  if chain (implUp y0_0 y0_1) 20 ((22 - x16).toNat + 1) y1_1 x16 = true then z47 else false
theorem impl_GoodDirSchema.l119.v_ev (x16 : Int) (x84 : List T106) (x85 x86 : Int) (y0_0 : List T100) (y0_1 : List T106) (y1_0 y1_1 : ByteArray) (y1_2 y1_3 : List ByteArray) (f_x16 : fitSh (.int .i64) x16) (f_x84 : fitSh (.list S106) x84) (f_x85 : fitSh (.int .i64) x85) (f_x86 : fitSh (.int .i64) x86)
    (f_y0_0 : fitSh (.list S100) y0_0) (f_y0_1 : fitSh (.list S106) y0_1) (f_y1_0 : fitSh .str y1_0) (f_y1_1 : fitSh .str y1_1) (f_y1_2 : fitSh (.list .str) y1_2) (f_y1_3 : fitSh (.list .str) y1_3) (z47 : Bool) (hz47 : EvF .bool (fun K j => impl_GoodDirSchema.l47 K j x84 x85 (wrap64 (x86 + 1)) y0_0 y0_1) z47) :
    EvF .bool (fun K j => impl_GoodDirSchema.l119 K j x16 x84 x85 x86 y0_0 y0_1 y1_0 y1_1 y1_2 y1_3) (impl_GoodDirSchema.l119.v x16 x84 x85 x86 y0_0 y0_1 y1_0 y1_1 y1_2 y1_3 z47) := by
  have b16 := i64_of f_x16
  refine ⟨?_, trivial⟩
  refine chain_fit (σ := T106) (L := fun K j s n => impl_GoodDirSchema.l119 K j n x84 x85 x86 y0_0 y0_1 s.1 s.2.1 s.2.2.1 s.2.2.2.1) (up := fun s => s.2.1) (ok := fun s => fitSh S106 s) (b := 20) (fun s n hs h0 he => ?_) (fun s n hs he => Ev.lp (fun K j => impl_GoodDirSchema.l119_eq K j n x84 x85 x86 y0_0 y0_1 s.1 s.2.1 s.2.2.1 s.2.2.2.1) (Ev.yes he hz47.1)) _ (y1_0, y1_1, y1_2, y1_3, ()) x16 ⟨f_y1_0, f_y1_1, f_y1_2, f_y1_3, trivial⟩ (by omega) (by omega) (by omega)
  obtain ⟨c, fc⟩ := impl_DirSchema_yclass.v_ev (y0_0, y0_1, ()) s.2.1 ⟨f_y0_0, f_y0_1, trivial⟩ hs.2.1
  refine ⟨fun hf => ?_, fun hf hn => ?_, fun hf hn => ⟨(impl_DirSchema_yclass.v (y0_0, y0_1, ()) s.2.1).1, fc.1, rfl, fun r hr => ?_⟩⟩
  · exact Ev.lp (fun K j => impl_GoodDirSchema.l119_eq K j n x84 x85 x86 y0_0 y0_1 s.1 s.2.1 s.2.2.1 s.2.2.2.1) (Ev.no he (c.bind (Ev.no (by rw [show (impl_DirSchema_yclass.v (y0_0, y0_1, ()) s.2.1).2.1 = false from hf]; simp) (Ev.now _))))
  · exact Ev.lp (fun K j => impl_GoodDirSchema.l119_eq K j n x84 x85 x86 y0_0 y0_1 s.1 s.2.1 s.2.2.1 s.2.2.2.1) (Ev.no he (c.bind (Ev.yes hf (Ev.yes hn (Ev.now _)))))
  · refine Ev.lp (fun K j => impl_GoodDirSchema.l119_eq K j n x84 x85 x86 y0_0 y0_1 s.1 s.2.1 s.2.2.1 s.2.2.2.1) (Ev.no he (c.bind (Ev.yes hf (Ev.no hn ?_))))
    rw [wrap_id (by omega) (by omega)]; exact hr
def spec_GoodDirSchema.l84.v (y0_0 : (List T100)) (y0_1 : (List T106)) (z70 : Bool) : List ByteArray → Nat → Bool
  | [], i => z70
  | e :: rest, i => (let t0 := spec_l3Type.v (y0_0, (y0_1, ())) e; (if t0.2.1 = true then (spec_GoodDirSchema.l84.v y0_0 y0_1 z70 rest (i + 1)) else false))
theorem spec_GoodDirSchema.l84.v_ev (x86 : (List T106)) (x87 : Int) (x88 : Int) (x143 : Int) (x144 : Int) (x148 : (List ByteArray)) (y0_0 : (List T100)) (y0_1 : (List T106)) (y1_0 : ByteArray) (y1_1 : ByteArray) (y1_2 : (List ByteArray)) (y1_3 : (List ByteArray)) (y2 : (List (List ByteArray))) (f_x86 : fitSh (.list S106) x86) (f_x87 : fitSh (.int .i64) x87) (f_x88 : fitSh (.int .i64) x88) (f_x143 : fitSh (.int .i64) x143) (f_x144 : fitSh (.int .i64) x144) (f_x148 : fitSh (.list .str) x148) (f_y0_0 : fitSh (.list S100) y0_0) (f_y0_1 : fitSh (.list S106) y0_1) (f_y1_0 : fitSh .str y1_0) (f_y1_1 : fitSh .str y1_1) (f_y1_2 : fitSh (.list .str) y1_2) (f_y1_3 : fitSh (.list .str) y1_3) (f_y2 : fitSh (.list (.list .str)) y2) (z70 : Bool) (hz70 : EvF .bool (fun K j => spec_GoodDirSchema.l70 K j x86 x87 x88 x143 (wrap64 (x144 + 1)) y0_0 y0_1 y1_0 y1_1 y1_2 y1_3 y2) (z70)) : ∀ (rest : List ByteArray) (i : Nat)  , x148.drop i = rest → EvF .bool (fun K j => spec_GoodDirSchema.l84 K j x86 x87 x88 x143 x144 x148 (x148.length : Int) (i : Int) y0_0 y0_1 y1_0 y1_1 y1_2 y1_3 y2) (spec_GoodDirSchema.l84.v y0_0 y0_1 z70 rest i ) := by
  have bX : x148.length ≤ 140737488351232 := f_x148.1
  intro rest
  induction rest with
  | nil =>
    intro i hd
    have hz := drop_none hd
    unfold spec_GoodDirSchema.l84.v
    exact EvF.lp (fun K j => spec_GoodDirSchema.l84_eq K j x86 x87 x88 x143 x144 x148 (x148.length : Int) (i : Int) y0_0 y0_1 y1_0 y1_1 y1_2 y1_3 y2) (EvF.no (by omega) (hz70 ))
  | cons e rest ih =>
    intro i hd
    obtain ⟨hlt, hd2, hx⟩ := drop_more hd
    have f_e : fitSh .str e := hx (dflt .str) ▸ fit_rd f_x148 _
    have f_i : fitSh (.int .i64) (i : Int) := fit_len (by omega)
    unfold spec_GoodDirSchema.l84.v
    refine EvF.lp (fun K j => spec_GoodDirSchema.l84_eq K j x86 x87 x88 x143 x144 x148 (x148.length : Int) (i : Int) y0_0 y0_1 y1_0 y1_1 y1_2 y1_3 y2) (EvF.yes (by omega) ?_)
    try rw [hx]
    try rw [wrap_nat (i := i) (by omega)]
    exact (EvF.yes (by first | omega | (simp only [wrap64] at *; omega)) (EvF.bind (spec_l3Type.v_ev _ _ (⟨f_y0_0, ⟨f_y0_1, trivial⟩⟩) (f_e)) fun f_t0 => (EvF.ite (fun h0 => (ih (i + 1)   hd2)) fun h0 => (EvF.now (trivial)))))
def spec_GoodDirSchema.l70.v (x86 : (List T106)) (x87 : Int) (x88 : Int) (y0_0 : (List T100)) (y0_1 : (List T106)) (y1_1 : ByteArray) (z47 : Bool) : List (List ByteArray) → Nat → Bool
  | [], i => (spec_GoodDirSchema.l111.v y1_1 0 x86 x87 x88 y0_0 y0_1 z47)
  | e :: rest, i => (spec_GoodDirSchema.l84.v y0_0 y0_1 (spec_GoodDirSchema.l70.v x86 x87 x88 y0_0 y0_1 y1_1 z47 rest (i + 1)) e 0)
theorem spec_GoodDirSchema.l70.v_ev (x86 : (List T106)) (x87 : Int) (x88 : Int) (y0_0 : (List T100)) (y0_1 : (List T106)) (y1_0 : ByteArray) (y1_1 : ByteArray) (y1_2 : (List ByteArray)) (y1_3 : (List ByteArray)) (y2 : (List (List ByteArray))) (f_x86 : fitSh (.list S106) x86) (f_x87 : fitSh (.int .i64) x87) (f_x88 : fitSh (.int .i64) x88) (f_y0_0 : fitSh (.list S100) y0_0) (f_y0_1 : fitSh (.list S106) y0_1) (f_y1_0 : fitSh .str y1_0) (f_y1_1 : fitSh .str y1_1) (f_y1_2 : fitSh (.list .str) y1_2) (f_y1_3 : fitSh (.list .str) y1_3) (f_y2 : fitSh (.list (.list .str)) y2) (z47 : Bool) (hz47 : EvF .bool (fun K j => spec_GoodDirSchema.l47 K j x86 x87 (wrap64 (x88 + 1)) y0_0 y0_1) (z47)) : ∀ (rest : List (List ByteArray)) (i : Nat)  , y2.drop i = rest → EvF .bool (fun K j => spec_GoodDirSchema.l70 K j x86 x87 x88 (y2.length : Int) (i : Int) y0_0 y0_1 y1_0 y1_1 y1_2 y1_3 y2) (spec_GoodDirSchema.l70.v x86 x87 x88 y0_0 y0_1 y1_1 z47 rest i ) := by
  have bX : y2.length ≤ 140737488351232 := f_y2.1
  intro rest
  induction rest with
  | nil =>
    intro i hd
    have hz := drop_none hd
    unfold spec_GoodDirSchema.l70.v
    exact EvF.lp (fun K j => spec_GoodDirSchema.l70_eq K j x86 x87 x88 (y2.length : Int) (i : Int) y0_0 y0_1 y1_0 y1_1 y1_2 y1_3 y2) (EvF.no (by omega) (spec_GoodDirSchema.l111.v_ev y1_1 0 x86 x87 x88 y0_0 y0_1 (f_y1_1) ((fit_wfb rfl)) (f_x86) (f_x87) (f_x88) (f_y0_0) (f_y0_1) z47 hz47))
  | cons e rest ih =>
    intro i hd
    obtain ⟨hlt, hd2, hx⟩ := drop_more hd
    have f_e : fitSh (.list .str) e := hx (dflt (.list .str)) ▸ fit_rd f_y2 _
    have f_i : fitSh (.int .i64) (i : Int) := fit_len (by omega)
    unfold spec_GoodDirSchema.l70.v
    refine EvF.lp (fun K j => spec_GoodDirSchema.l70_eq K j x86 x87 x88 (y2.length : Int) (i : Int) y0_0 y0_1 y1_0 y1_1 y1_2 y1_3 y2) (EvF.yes (by omega) ?_)
    try rw [hx]
    try rw [wrap_nat (i := i) (by omega)]
    exact (EvF.yes (by first | omega | (simp only [wrap64] at *; omega)) (spec_GoodDirSchema.l84.v_ev x86 x87 x88 (y2.length : Int) (i : Int) e y0_0 y0_1 y1_0 y1_1 y1_2 y1_3 y2 (f_x86) (f_x87) (f_x88) (fit_len (f_y2).1) (f_i) (f_e) (f_y0_0) (f_y0_1) (f_y1_0) (f_y1_1) (f_y1_2) (f_y1_3) (f_y2) (spec_GoodDirSchema.l70.v x86 x87 x88 y0_0 y0_1 y1_1 z47 rest (i + 1)) (by (try rw [wrap_nat (i := i) (by omega)]); exact ih (i + 1)  hd2) _ 0    rfl))
def spec_GoodDirSchema.l47.v (x86 : (List T106)) (y0_0 : (List T100))  : List T106 → Nat → Bool
  | [], i => true
  | e :: rest, i => (let t0 := spec_GoodName.v e.1; (if t0 = true then (if ((i : Int) : Int) > 0 then (let t1 := spec_l1CmpText.v (rd Z106 x86 (wrap64 ((i : Int) - 1))).1 e.1; (if (t1 : Int) ≥ 0 then false else (if ((e.2.2.1.length : Int) : Int) > 30 then false else (if ((e.2.2.2.1.length : Int) : Int) > 30 then false else (let t2 := spec_l3Rising.v e.2.2.1; (if t2 = true then (let t3 := spec_l3Rising.v e.2.2.2.1; (if t3 = true then (spec_GoodDirSchema.l70.v x86 (x86.length : Int) (i : Int) y0_0 x86 e.2.1 (spec_GoodDirSchema.l47.v x86 y0_0 rest (i + 1)) [e.2.2.1, e.2.2.2.1] 0) else false)) else false)))))) else (if ((e.2.2.1.length : Int) : Int) > 30 then false else (if ((e.2.2.2.1.length : Int) : Int) > 30 then false else (let t1 := spec_l3Rising.v e.2.2.1; (if t1 = true then (let t2 := spec_l3Rising.v e.2.2.2.1; (if t2 = true then (spec_GoodDirSchema.l70.v x86 (x86.length : Int) (i : Int) y0_0 x86 e.2.1 (spec_GoodDirSchema.l47.v x86 y0_0 rest (i + 1)) [e.2.2.1, e.2.2.2.1] 0) else false)) else false))))) else false))
theorem spec_GoodDirSchema.l47.v_ev (x86 : (List T106)) (y0_0 : (List T100)) (f_x86 : fitSh (.list S106) x86) (f_y0_0 : fitSh (.list S100) y0_0)  : ∀ (rest : List T106) (i : Nat)  , x86.drop i = rest → EvF .bool (fun K j => spec_GoodDirSchema.l47 K j x86 (x86.length : Int) (i : Int) y0_0 x86) (spec_GoodDirSchema.l47.v x86 y0_0 rest i ) := by
  have bX : x86.length ≤ 140737488351232 := f_x86.1
  intro rest
  induction rest with
  | nil =>
    intro i hd
    have hz := drop_none hd
    unfold spec_GoodDirSchema.l47.v
    exact EvF.lp (fun K j => spec_GoodDirSchema.l47_eq K j x86 (x86.length : Int) (i : Int) y0_0 x86) (EvF.no (by omega) (EvF.now (trivial)))
  | cons e rest ih =>
    intro i hd
    obtain ⟨hlt, hd2, hx⟩ := drop_more hd
    have f_e : fitSh S106 e := hx (dflt S106) ▸ fit_rd f_x86 _
    have f_i : fitSh (.int .i64) (i : Int) := fit_len (by omega)
    unfold spec_GoodDirSchema.l47.v
    refine EvF.lp (fun K j => spec_GoodDirSchema.l47_eq K j x86 (x86.length : Int) (i : Int) y0_0 x86) (EvF.yes (by omega) ?_)
    try rw [hx]
    try rw [wrap_nat (i := i) (by omega)]
    exact (EvF.yes (by first | omega | (simp only [wrap64] at *; omega)) (EvF.bind (spec_GoodName.v_ev _ (f_e.1)) fun f_t0 => (EvF.ite (fun h0 => (EvF.ite (fun h1 => (EvF.yes (by first | omega | (simp only [wrap64] at *; omega)) (EvF.bind (spec_l1CmpText.v_ev _ _ (((fit_rd (f_x86) _)).1) (f_e.1)) fun f_t1 => (EvF.ite (fun h2 => (EvF.now (trivial))) fun h2 => (EvF.ite (fun h3 => (EvF.now (trivial))) fun h3 => (EvF.ite (fun h4 => (EvF.now (trivial))) fun h4 => (EvF.bind (spec_l3Rising.v_ev _ (f_e.2.2.1)) fun f_t2 => (EvF.ite (fun h5 => (EvF.bind (spec_l3Rising.v_ev _ (f_e.2.2.2.1)) fun f_t3 => (EvF.ite (fun h6 => (spec_GoodDirSchema.l70.v_ev x86 (x86.length : Int) (i : Int) y0_0 x86 e.1 e.2.1 e.2.2.1 e.2.2.2.1 [e.2.2.1, e.2.2.2.1] (f_x86) (fit_len (f_x86).1) (f_i) (f_y0_0) (f_x86) (f_e.1) (f_e.2.1) (f_e.2.2.1) (f_e.2.2.2.1) (⟨Nat.le_of_ble_eq_true rfl, (fit_cons (f_e.2.2.1) (fit_cons (f_e.2.2.2.1) (fun _ hx => by cases hx)))⟩) (spec_GoodDirSchema.l47.v x86 y0_0 rest (i + 1)) (by (try rw [wrap_nat (i := i) (by omega)]); exact ih (i + 1)  hd2) _ 0    rfl)) fun h6 => (EvF.now (trivial))))) fun h5 => (EvF.now (trivial)))))))))) fun h1 => (EvF.ite (fun h2 => (EvF.now (trivial))) fun h2 => (EvF.ite (fun h3 => (EvF.now (trivial))) fun h3 => (EvF.bind (spec_l3Rising.v_ev _ (f_e.2.2.1)) fun f_t1 => (EvF.ite (fun h4 => (EvF.bind (spec_l3Rising.v_ev _ (f_e.2.2.2.1)) fun f_t2 => (EvF.ite (fun h5 => (spec_GoodDirSchema.l70.v_ev x86 (x86.length : Int) (i : Int) y0_0 x86 e.1 e.2.1 e.2.2.1 e.2.2.2.1 [e.2.2.1, e.2.2.2.1] (f_x86) (fit_len (f_x86).1) (f_i) (f_y0_0) (f_x86) (f_e.1) (f_e.2.1) (f_e.2.2.1) (f_e.2.2.2.1) (⟨Nat.le_of_ble_eq_true rfl, (fit_cons (f_e.2.2.1) (fit_cons (f_e.2.2.2.1) (fun _ hx => by cases hx)))⟩) (spec_GoodDirSchema.l47.v x86 y0_0 rest (i + 1)) (by (try rw [wrap_nat (i := i) (by omega)]); exact ih (i + 1)  hd2) _ 0    rfl)) fun h5 => (EvF.now (trivial))))) fun h4 => (EvF.now (trivial)))))))) fun h0 => (EvF.now (trivial)))))
def spec_GoodDirSchema.l14.v (x30 : (List T100)) (y0_1 : (List T106))  : List T100 → Nat → Bool
  | [], i => (let t0 := spec_l3Type.v (x30, (y0_1, ())) (⟨#[99, 108, 97, 115, 115]⟩ : ByteArray); (if t0.2.1 = true then (if (t0.1.2.1 : Int) = 2 then (if t0.1.2.2.1 = true then false else (spec_GoodDirSchema.l47.v y0_1 x30 y0_1 0)) else false) else false))
  | e :: rest, i => (let t0 := spec_GoodName.v e.1; (if t0 = true then (if (e.2.1 : Int) < 1 then false else (if (e.2.1 : Int) > 4 then false else (if ((i : Int) : Int) > 0 then (let t1 := spec_l1CmpText.v (rd Z100 x30 (wrap64 ((i : Int) - 1))).1 e.1; (if (t1 : Int) ≥ 0 then false else (spec_GoodDirSchema.l14.v x30 y0_1 rest (i + 1)))) else (spec_GoodDirSchema.l14.v x30 y0_1 rest (i + 1))))) else false))
theorem spec_GoodDirSchema.l14.v_ev (x30 : (List T100)) (y0_1 : (List T106)) (f_x30 : fitSh (.list S100) x30) (f_y0_1 : fitSh (.list S106) y0_1)  : ∀ (rest : List T100) (i : Nat)  , x30.drop i = rest → EvF .bool (fun K j => spec_GoodDirSchema.l14 K j x30 (x30.length : Int) (i : Int) x30 y0_1) (spec_GoodDirSchema.l14.v x30 y0_1 rest i ) := by
  have bX : x30.length ≤ 140737488351232 := f_x30.1
  intro rest
  induction rest with
  | nil =>
    intro i hd
    have hz := drop_none hd
    unfold spec_GoodDirSchema.l14.v
    exact EvF.lp (fun K j => spec_GoodDirSchema.l14_eq K j x30 (x30.length : Int) (i : Int) x30 y0_1) (EvF.no (by omega) (EvF.bind (spec_l3Type.v_ev _ _ (⟨f_x30, ⟨f_y0_1, trivial⟩⟩) ((fit_bytes rfl))) fun f_t0 => (EvF.ite (fun h0 => (EvF.ite (fun h1 => (EvF.ite (fun h2 => (EvF.now (trivial))) fun h2 => (spec_GoodDirSchema.l47.v_ev y0_1 x30 (f_y0_1) (f_x30)  _ 0    rfl))) fun h1 => (EvF.now (trivial)))) fun h0 => (EvF.now (trivial)))))
  | cons e rest ih =>
    intro i hd
    obtain ⟨hlt, hd2, hx⟩ := drop_more hd
    have f_e : fitSh S100 e := hx (dflt S100) ▸ fit_rd f_x30 _
    have f_i : fitSh (.int .i64) (i : Int) := fit_len (by omega)
    unfold spec_GoodDirSchema.l14.v
    refine EvF.lp (fun K j => spec_GoodDirSchema.l14_eq K j x30 (x30.length : Int) (i : Int) x30 y0_1) (EvF.yes (by omega) ?_)
    try rw [hx]
    try rw [wrap_nat (i := i) (by omega)]
    exact (EvF.yes (by first | omega | (simp only [wrap64] at *; omega)) (EvF.bind (spec_GoodName.v_ev _ (f_e.1)) fun f_t0 => (EvF.ite (fun h0 => (EvF.ite (fun h1 => (EvF.now (trivial))) fun h1 => (EvF.ite (fun h2 => (EvF.now (trivial))) fun h2 => (EvF.ite (fun h3 => (EvF.yes (by first | omega | (simp only [wrap64] at *; omega)) (EvF.bind (spec_l1CmpText.v_ev _ _ (((fit_rd (f_x30) _)).1) (f_e.1)) fun f_t1 => (EvF.ite (fun h4 => (EvF.now (trivial))) fun h4 => (ih (i + 1)   hd2))))) fun h3 => (ih (i + 1)   hd2))))) fun h0 => (EvF.now (trivial)))))
def spec_GoodDirSchema.v (a0 : T61) : Bool :=
  (if ((a0.1.length : Int) : Int) > 40 then false else (if ((a0.2.1.length : Int) : Int) > 20 then false else (spec_GoodDirSchema.l14.v a0.1 a0.2.1 a0.1 0)))
theorem spec_GoodDirSchema.v_ev (a0 : T61) (f_a0 : fitSh S61 a0) : EvF .bool (fun K _ => spec_GoodDirSchema.f K a0) (spec_GoodDirSchema.v a0) := by
  unfold spec_GoodDirSchema.v
  exact EvF.fn (fun k => spec_GoodDirSchema.f_eq k a0) (EvF.ite (fun h0 => (EvF.now (trivial))) fun h0 => (EvF.ite (fun h1 => (EvF.now (trivial))) fun h1 => (EvF.diag (spec_GoodDirSchema.l14.v_ev a0.1 a0.2.1 (f_a0.1) (f_a0.2.1)  _ 0    rfl))))

def impl_GoodDirSchema.l92.v (y0_0 : (List T100)) (y0_1 : (List T106)) (z70 : Bool) : List ByteArray → Nat → Bool
  | [], i => z70
  | e :: rest, i => (let t0 := impl_DirSchema_yattrType.v (y0_0, (y0_1, ())) e; (if t0.2.1 = true then (impl_GoodDirSchema.l92.v y0_0 y0_1 z70 rest (i + 1)) else false))
theorem impl_GoodDirSchema.l92.v_ev (x84 : (List T106)) (x85 : Int) (x86 : Int) (x116 : Int) (x117 : Int) (x129 : (List ByteArray)) (y0_0 : (List T100)) (y0_1 : (List T106)) (y1_0 : ByteArray) (y1_1 : ByteArray) (y1_2 : (List ByteArray)) (y1_3 : (List ByteArray)) (y2 : (List (List ByteArray))) (f_x84 : fitSh (.list S106) x84) (f_x85 : fitSh (.int .i64) x85) (f_x86 : fitSh (.int .i64) x86) (f_x116 : fitSh (.int .i64) x116) (f_x117 : fitSh (.int .i64) x117) (f_x129 : fitSh (.list .str) x129) (f_y0_0 : fitSh (.list S100) y0_0) (f_y0_1 : fitSh (.list S106) y0_1) (f_y1_0 : fitSh .str y1_0) (f_y1_1 : fitSh .str y1_1) (f_y1_2 : fitSh (.list .str) y1_2) (f_y1_3 : fitSh (.list .str) y1_3) (f_y2 : fitSh (.list (.list .str)) y2) (z70 : Bool) (hz70 : EvF .bool (fun K j => impl_GoodDirSchema.l70 K j x84 x85 x86 x116 (wrap64 (x117 + 1)) y0_0 y0_1 y1_0 y1_1 y1_2 y1_3 y2) (z70)) : ∀ (rest : List ByteArray) (i : Nat)  , x129.drop i = rest → EvF .bool (fun K j => impl_GoodDirSchema.l92 K j x84 x85 x86 x116 x117 x129 (x129.length : Int) (i : Int) y0_0 y0_1 y1_0 y1_1 y1_2 y1_3 y2) (impl_GoodDirSchema.l92.v y0_0 y0_1 z70 rest i ) := by
  have bX : x129.length ≤ 140737488351232 := f_x129.1
  intro rest
  induction rest with
  | nil =>
    intro i hd
    have hz := drop_none hd
    unfold impl_GoodDirSchema.l92.v
    exact EvF.lp (fun K j => impl_GoodDirSchema.l92_eq K j x84 x85 x86 x116 x117 x129 (x129.length : Int) (i : Int) y0_0 y0_1 y1_0 y1_1 y1_2 y1_3 y2) (EvF.no (by omega) (hz70 ))
  | cons e rest ih =>
    intro i hd
    obtain ⟨hlt, hd2, hx⟩ := drop_more hd
    have f_e : fitSh .str e := hx (dflt .str) ▸ fit_rd f_x129 _
    have f_i : fitSh (.int .i64) (i : Int) := fit_len (by omega)
    unfold impl_GoodDirSchema.l92.v
    refine EvF.lp (fun K j => impl_GoodDirSchema.l92_eq K j x84 x85 x86 x116 x117 x129 (x129.length : Int) (i : Int) y0_0 y0_1 y1_0 y1_1 y1_2 y1_3 y2) (EvF.yes (by omega) ?_)
    try rw [hx]
    try rw [wrap_nat (i := i) (by omega)]
    exact (EvF.yes (by first | omega | (simp only [wrap64] at *; omega)) (EvF.bind (impl_DirSchema_yattrType.v_ev _ _ (⟨f_y0_0, ⟨f_y0_1, trivial⟩⟩) (f_e)) fun f_t0 => (EvF.ite (fun h0 => (ih (i + 1)   hd2)) fun h0 => (EvF.now (trivial)))))
def impl_GoodDirSchema.l70.v (x84 : (List T106)) (x85 : Int) (x86 : Int) (y0_0 : (List T100)) (y0_1 : (List T106)) (y1_0 : ByteArray) (y1_1 : ByteArray) (y1_2 : (List ByteArray)) (y1_3 : (List ByteArray)) (z47 : Bool) : List (List ByteArray) → Nat → Bool
  | [], i => (impl_GoodDirSchema.l119.v 0 x84 x85 x86 y0_0 y0_1 y1_0 y1_1 y1_2 y1_3 z47)
  | e :: rest, i => (if ((e.length : Int) : Int) > 30 then false else (let t0 := impl_yrising.v e; (if t0 = true then (impl_GoodDirSchema.l92.v y0_0 y0_1 (impl_GoodDirSchema.l70.v x84 x85 x86 y0_0 y0_1 y1_0 y1_1 y1_2 y1_3 z47 rest (i + 1)) e 0) else false)))
theorem impl_GoodDirSchema.l70.v_ev (x84 : (List T106)) (x85 : Int) (x86 : Int) (y0_0 : (List T100)) (y0_1 : (List T106)) (y1_0 : ByteArray) (y1_1 : ByteArray) (y1_2 : (List ByteArray)) (y1_3 : (List ByteArray)) (y2 : (List (List ByteArray))) (f_x84 : fitSh (.list S106) x84) (f_x85 : fitSh (.int .i64) x85) (f_x86 : fitSh (.int .i64) x86) (f_y0_0 : fitSh (.list S100) y0_0) (f_y0_1 : fitSh (.list S106) y0_1) (f_y1_0 : fitSh .str y1_0) (f_y1_1 : fitSh .str y1_1) (f_y1_2 : fitSh (.list .str) y1_2) (f_y1_3 : fitSh (.list .str) y1_3) (f_y2 : fitSh (.list (.list .str)) y2) (z47 : Bool) (hz47 : EvF .bool (fun K j => impl_GoodDirSchema.l47 K j x84 x85 (wrap64 (x86 + 1)) y0_0 y0_1) (z47)) : ∀ (rest : List (List ByteArray)) (i : Nat)  , y2.drop i = rest → EvF .bool (fun K j => impl_GoodDirSchema.l70 K j x84 x85 x86 (y2.length : Int) (i : Int) y0_0 y0_1 y1_0 y1_1 y1_2 y1_3 y2) (impl_GoodDirSchema.l70.v x84 x85 x86 y0_0 y0_1 y1_0 y1_1 y1_2 y1_3 z47 rest i ) := by
  have bX : y2.length ≤ 140737488351232 := f_y2.1
  intro rest
  induction rest with
  | nil =>
    intro i hd
    have hz := drop_none hd
    unfold impl_GoodDirSchema.l70.v
    exact EvF.lp (fun K j => impl_GoodDirSchema.l70_eq K j x84 x85 x86 (y2.length : Int) (i : Int) y0_0 y0_1 y1_0 y1_1 y1_2 y1_3 y2) (EvF.no (by omega) (impl_GoodDirSchema.l119.v_ev 0 x84 x85 x86 y0_0 y0_1 y1_0 y1_1 y1_2 y1_3 ((fit_wfb rfl)) (f_x84) (f_x85) (f_x86) (f_y0_0) (f_y0_1) (f_y1_0) (f_y1_1) (f_y1_2) (f_y1_3) z47 hz47))
  | cons e rest ih =>
    intro i hd
    obtain ⟨hlt, hd2, hx⟩ := drop_more hd
    have f_e : fitSh (.list .str) e := hx (dflt (.list .str)) ▸ fit_rd f_y2 _
    have f_i : fitSh (.int .i64) (i : Int) := fit_len (by omega)
    unfold impl_GoodDirSchema.l70.v
    refine EvF.lp (fun K j => impl_GoodDirSchema.l70_eq K j x84 x85 x86 (y2.length : Int) (i : Int) y0_0 y0_1 y1_0 y1_1 y1_2 y1_3 y2) (EvF.yes (by omega) ?_)
    try rw [hx]
    try rw [wrap_nat (i := i) (by omega)]
    exact (EvF.yes (by first | omega | (simp only [wrap64] at *; omega)) (EvF.ite (fun h0 => (EvF.now (trivial))) fun h0 => (EvF.bind (impl_yrising.v_ev _ (f_e)) fun f_t0 => (EvF.ite (fun h1 => (impl_GoodDirSchema.l92.v_ev x84 x85 x86 (y2.length : Int) (i : Int) e y0_0 y0_1 y1_0 y1_1 y1_2 y1_3 y2 (f_x84) (f_x85) (f_x86) (fit_len (f_y2).1) (f_i) (f_e) (f_y0_0) (f_y0_1) (f_y1_0) (f_y1_1) (f_y1_2) (f_y1_3) (f_y2) (impl_GoodDirSchema.l70.v x84 x85 x86 y0_0 y0_1 y1_0 y1_1 y1_2 y1_3 z47 rest (i + 1)) (by (try rw [wrap_nat (i := i) (by omega)]); exact ih (i + 1)  hd2) _ 0    rfl)) fun h1 => (EvF.now (trivial))))))
def impl_GoodDirSchema.l47.v (x84 : (List T106)) (y0_0 : (List T100))  : List T106 → Nat → Bool
  | [], i => true
  | e :: rest, i => (let t0 := impl_GoodName.v e.1; (if t0 = true then (if ((i : Int) : Int) > 0 then (if (Op.bytesLess (rd Z106 x84 (wrap64 ((i : Int) - 1))).1.toList e.1.toList) = true then (impl_GoodDirSchema.l70.v x84 (x84.length : Int) (i : Int) y0_0 x84 e.1 e.2.1 e.2.2.1 e.2.2.2.1 (impl_GoodDirSchema.l47.v x84 y0_0 rest (i + 1)) [e.2.2.1, e.2.2.2.1] 0) else false) else (impl_GoodDirSchema.l70.v x84 (x84.length : Int) (i : Int) y0_0 x84 e.1 e.2.1 e.2.2.1 e.2.2.2.1 (impl_GoodDirSchema.l47.v x84 y0_0 rest (i + 1)) [e.2.2.1, e.2.2.2.1] 0)) else false))
theorem impl_GoodDirSchema.l47.v_ev (x84 : (List T106)) (y0_0 : (List T100)) (f_x84 : fitSh (.list S106) x84) (f_y0_0 : fitSh (.list S100) y0_0)  : ∀ (rest : List T106) (i : Nat)  , x84.drop i = rest → EvF .bool (fun K j => impl_GoodDirSchema.l47 K j x84 (x84.length : Int) (i : Int) y0_0 x84) (impl_GoodDirSchema.l47.v x84 y0_0 rest i ) := by
  have bX : x84.length ≤ 140737488351232 := f_x84.1
  intro rest
  induction rest with
  | nil =>
    intro i hd
    have hz := drop_none hd
    unfold impl_GoodDirSchema.l47.v
    exact EvF.lp (fun K j => impl_GoodDirSchema.l47_eq K j x84 (x84.length : Int) (i : Int) y0_0 x84) (EvF.no (by omega) (EvF.now (trivial)))
  | cons e rest ih =>
    intro i hd
    obtain ⟨hlt, hd2, hx⟩ := drop_more hd
    have f_e : fitSh S106 e := hx (dflt S106) ▸ fit_rd f_x84 _
    have f_i : fitSh (.int .i64) (i : Int) := fit_len (by omega)
    unfold impl_GoodDirSchema.l47.v
    refine EvF.lp (fun K j => impl_GoodDirSchema.l47_eq K j x84 (x84.length : Int) (i : Int) y0_0 x84) (EvF.yes (by omega) ?_)
    try rw [hx]
    try rw [wrap_nat (i := i) (by omega)]
    exact (EvF.yes (by first | omega | (simp only [wrap64] at *; omega)) (EvF.bind (impl_GoodName.v_ev _ (f_e.1)) fun f_t0 => (EvF.ite (fun h0 => (EvF.ite (fun h1 => (EvF.yes (by first | omega | (simp only [wrap64] at *; omega)) (EvF.ite (fun h2 => (impl_GoodDirSchema.l70.v_ev x84 (x84.length : Int) (i : Int) y0_0 x84 e.1 e.2.1 e.2.2.1 e.2.2.2.1 [e.2.2.1, e.2.2.2.1] (f_x84) (fit_len (f_x84).1) (f_i) (f_y0_0) (f_x84) (f_e.1) (f_e.2.1) (f_e.2.2.1) (f_e.2.2.2.1) (⟨Nat.le_of_ble_eq_true rfl, (fit_cons (f_e.2.2.1) (fit_cons (f_e.2.2.2.1) (fun _ hx => by cases hx)))⟩) (impl_GoodDirSchema.l47.v x84 y0_0 rest (i + 1)) (by (try rw [wrap_nat (i := i) (by omega)]); exact ih (i + 1)  hd2) _ 0    rfl)) fun h2 => (EvF.now (trivial))))) fun h1 => (impl_GoodDirSchema.l70.v_ev x84 (x84.length : Int) (i : Int) y0_0 x84 e.1 e.2.1 e.2.2.1 e.2.2.2.1 [e.2.2.1, e.2.2.2.1] (f_x84) (fit_len (f_x84).1) (f_i) (f_y0_0) (f_x84) (f_e.1) (f_e.2.1) (f_e.2.2.1) (f_e.2.2.2.1) (⟨Nat.le_of_ble_eq_true rfl, (fit_cons (f_e.2.2.1) (fit_cons (f_e.2.2.2.1) (fun _ hx => by cases hx)))⟩) (impl_GoodDirSchema.l47.v x84 y0_0 rest (i + 1)) (by (try rw [wrap_nat (i := i) (by omega)]); exact ih (i + 1)  hd2) _ 0    rfl))) fun h0 => (EvF.now (trivial)))))
def impl_GoodDirSchema.l14.v (x29 : (List T100)) (y0_1 : (List T106))  : List T100 → Nat → Bool
  | [], i => (let t0 := impl_DirSchema_yattrType.v (x29, (y0_1, ())) (⟨#[99, 108, 97, 115, 115]⟩ : ByteArray); (if t0.2.1 = true then (if (t0.1.2.1 : Int) = 2 then (if t0.1.2.2.1 = true then false else (impl_GoodDirSchema.l47.v y0_1 x29 y0_1 0)) else false) else false))
  | e :: rest, i => (let t0 := impl_GoodName.v e.1; (if t0 = true then (if ((i : Int) : Int) > 0 then (if (Op.bytesLess (rd Z100 x29 (wrap64 ((i : Int) - 1))).1.toList e.1.toList) = true then (if (e.2.1 : Int) < 1 then false else (if (e.2.1 : Int) > 4 then false else (impl_GoodDirSchema.l14.v x29 y0_1 rest (i + 1)))) else false) else (if (e.2.1 : Int) < 1 then false else (if (e.2.1 : Int) > 4 then false else (impl_GoodDirSchema.l14.v x29 y0_1 rest (i + 1))))) else false))
theorem impl_GoodDirSchema.l14.v_ev (x29 : (List T100)) (y0_1 : (List T106)) (f_x29 : fitSh (.list S100) x29) (f_y0_1 : fitSh (.list S106) y0_1)  : ∀ (rest : List T100) (i : Nat)  , x29.drop i = rest → EvF .bool (fun K j => impl_GoodDirSchema.l14 K j x29 (x29.length : Int) (i : Int) x29 y0_1) (impl_GoodDirSchema.l14.v x29 y0_1 rest i ) := by
  have bX : x29.length ≤ 140737488351232 := f_x29.1
  intro rest
  induction rest with
  | nil =>
    intro i hd
    have hz := drop_none hd
    unfold impl_GoodDirSchema.l14.v
    exact EvF.lp (fun K j => impl_GoodDirSchema.l14_eq K j x29 (x29.length : Int) (i : Int) x29 y0_1) (EvF.no (by omega) (EvF.bind (impl_DirSchema_yattrType.v_ev _ _ (⟨f_x29, ⟨f_y0_1, trivial⟩⟩) ((fit_bytes rfl))) fun f_t0 => (EvF.ite (fun h0 => (EvF.ite (fun h1 => (EvF.ite (fun h2 => (EvF.now (trivial))) fun h2 => (impl_GoodDirSchema.l47.v_ev y0_1 x29 (f_y0_1) (f_x29)  _ 0    rfl))) fun h1 => (EvF.now (trivial)))) fun h0 => (EvF.now (trivial)))))
  | cons e rest ih =>
    intro i hd
    obtain ⟨hlt, hd2, hx⟩ := drop_more hd
    have f_e : fitSh S100 e := hx (dflt S100) ▸ fit_rd f_x29 _
    have f_i : fitSh (.int .i64) (i : Int) := fit_len (by omega)
    unfold impl_GoodDirSchema.l14.v
    refine EvF.lp (fun K j => impl_GoodDirSchema.l14_eq K j x29 (x29.length : Int) (i : Int) x29 y0_1) (EvF.yes (by omega) ?_)
    try rw [hx]
    try rw [wrap_nat (i := i) (by omega)]
    exact (EvF.yes (by first | omega | (simp only [wrap64] at *; omega)) (EvF.bind (impl_GoodName.v_ev _ (f_e.1)) fun f_t0 => (EvF.ite (fun h0 => (EvF.ite (fun h1 => (EvF.yes (by first | omega | (simp only [wrap64] at *; omega)) (EvF.ite (fun h2 => (EvF.ite (fun h3 => (EvF.now (trivial))) fun h3 => (EvF.ite (fun h4 => (EvF.now (trivial))) fun h4 => (ih (i + 1)   hd2)))) fun h2 => (EvF.now (trivial))))) fun h1 => (EvF.ite (fun h2 => (EvF.now (trivial))) fun h2 => (EvF.ite (fun h3 => (EvF.now (trivial))) fun h3 => (ih (i + 1)   hd2))))) fun h0 => (EvF.now (trivial)))))
def impl_GoodDirSchema.v (a0 : T61) : Bool :=
  (if ((a0.1.length : Int) : Int) > 40 then false else (if ((a0.2.1.length : Int) : Int) > 20 then false else (impl_GoodDirSchema.l14.v a0.1 a0.2.1 a0.1 0)))
theorem impl_GoodDirSchema.v_ev (a0 : T61) (f_a0 : fitSh S61 a0) : EvF .bool (fun K _ => impl_GoodDirSchema.f K a0) (impl_GoodDirSchema.v a0) := by
  unfold impl_GoodDirSchema.v
  exact EvF.fn (fun k => impl_GoodDirSchema.f_eq k a0) (EvF.ite (fun h0 => (EvF.now (trivial))) fun h0 => (EvF.ite (fun h1 => (EvF.now (trivial))) fun h1 => (EvF.diag (impl_GoodDirSchema.l14.v_ev a0.1 a0.2.1 (f_a0.1) (f_a0.2.1)  _ 0    rfl))))

/-! ### both sides are alike -/
theorem less_not (s t : ByteArray) : (Op.bytesLess s.toList t.toList = true) ↔ ¬ cmpT s t ≥ 0 := by rw [less_cmp]; omega
theorem type_same (a : T61) (n : ByteArray) : impl_DirSchema_yattrType.v a n = spec_l3Type.v a n := by
  have h : ∀ (rest : List T100) (i : Nat), impl_yfind_impl_AttrType.l6.v n rest i = spec_l3Type.l6.v n rest i := by
    intro rest
    induction rest with
    | nil => intro i; rfl
    | cons e rest ih => intro i; unfold impl_yfind_impl_AttrType.l6.v spec_l3Type.l6.v impl_DirSchema_yattrType_1.v; rw [ih]
  unfold impl_DirSchema_yattrType.v spec_l3Type.v impl_yfind_impl_AttrType.v
  exact h _ _
theorem class_same (a : T61) (n : ByteArray) : impl_DirSchema_yclass.v a n = spec_l3Class.v a n := by
  have h : ∀ (rest : List T106) (i : Nat), impl_yfind_impl_Class.l6.v n rest i = spec_l3Class.l6.v n rest i := by
    intro rest
    induction rest with
    | nil => intro i; rfl
    | cons e rest ih => intro i; unfold impl_yfind_impl_Class.l6.v spec_l3Class.l6.v impl_DirSchema_yclass_1.v; rw [ih]
  unfold impl_DirSchema_yclass.v spec_l3Class.v impl_yfind_impl_Class.v
  exact h _ _
theorem class_found (y : List T100) (l : List T106) (n : ByteArray) (h : (spec_l3Class.v (y, l, ()) n).2.1 = true) : n.toList ∈ l.map fun c => c.1.toList := by
  have h : (spec_l3Class.l6.v n l 0).2.1 = true := h
  have g : ∀ (rest : List T106) (i : Nat), (spec_l3Class.l6.v n rest i).2.1 = true → n.toList ∈ rest.map fun c => c.1.toList := by
    intro rest
    induction rest with
    | nil => intro i h; unfold spec_l3Class.l6.v at h; cases h
    | cons e rest ih =>
      intro i h
      unfold spec_l3Class.l6.v at h
      by_cases c : e.1.toList = n.toList
      · rw [List.map_cons, c]; exact List.mem_cons_self
      · rw [if_neg c] at h; rw [List.map_cons]; exact List.mem_cons_of_mem _ (ih _ h)
  exact g _ _ h
theorem rising_same (l : List ByteArray) : impl_yrising.v l = spec_l3Rising.v l := by
  have h : ∀ (rest : List ByteArray) (i : Nat), 1 ≤ i → impl_yrising.l6.v l rest i = spec_l3Rising.l6.v l rest i := by
    intro rest
    induction rest with
    | nil => intro i _; rfl
    | cons e rest ih =>
      intro i hi
      unfold impl_yrising.l6.v spec_l3Rising.l6.v
      dsimp only [spec_l1CmpText.v]
      rw [if_pos (by omega), ih _ (by omega)]
      by_cases c : cmpT (rd (⟨#[]⟩ : ByteArray) l (wrap64 ((i : Int) - 1))) e ≥ 0
      · rw [if_pos c, if_neg (fun q => (less_not _ _).1 q c)]
      · rw [if_neg c, if_pos ((less_not _ _).2 c)]
  unfold impl_yrising.v spec_l3Rising.v
  cases l with
  | nil => rfl
  | cons e rest =>
    unfold impl_yrising.l6.v
    rw [if_neg (by decide)]
    exact h rest 1 (Nat.le_refl _)
/-- the empty text is come to in m steps -/
def Comes (f : ByteArray → ByteArray × Bool) : Nat → ByteArray → Prop
  | 0, s => s.toList = (⟨#[]⟩ : ByteArray).toList
  | m + 1, s => s.toList ≠ (⟨#[]⟩ : ByteArray).toList ∧ (f s).2 = true ∧ Comes f m (f s).1
theorem chain_comes {f : ByteArray → ByteArray × Bool} {b : Int} : ∀ (d : Nat) (s : ByteArray) (n : Int), n ≤ b + 1 → b + 2 ≤ n + d → (chain f b d s n = true ↔ ∃ m : Nat, Comes f m s ∧ n + m ≤ b + 1)
  | 0, s, n, h, h1 => by omega
  | d + 1, s, n, h, h1 => by
    unfold chain
    by_cases e : s.toList = (⟨#[]⟩ : ByteArray).toList
    · rw [if_pos e]; exact ⟨fun _ => ⟨0, e, by omega⟩, fun _ => rfl⟩
    · rw [if_neg e]
      cases hf : (f s).2 with
      | false =>
        simp only [Bool.false_eq_true, if_false, false_iff]
        rintro ⟨m, c, _⟩
        cases m with
        | zero => exact e c
        | succ m => rw [c.2.1] at hf; cases hf
      | true =>
        simp only [if_true]
        by_cases hn : n > b
        · rw [if_pos hn]
          refine ⟨fun q => (by cases q), ?_⟩
          rintro ⟨m, c, hm⟩
          cases m with
          | zero => exact absurd c e
          | succ m => omega
        · rw [if_neg hn, chain_comes d _ (n + 1) (by omega) (by omega)]
          constructor
          · rintro ⟨m, c, hm⟩; exact ⟨m + 1, ⟨e, hf, c⟩, by omega⟩
          · rintro ⟨m, c, hm⟩
            cases m with
            | zero => exact absurd c e
            | succ m => exact ⟨m, c.2.2, by omega⟩
theorem comes_one {f : ByteArray → ByteArray × Bool} : ∀ (m n : Nat) (s t : ByteArray), s.toList = t.toList → Comes f m s → Comes f n t → m = n
  | 0, 0, s, t, e, _, _ => rfl
  | 0, n + 1, s, t, e, h, g => absurd (e ▸ h : t.toList = _) g.1
  | m + 1, 0, s, t, e, h, g => absurd (e.symm ▸ g : s.toList = _) h.1
  | m + 1, n + 1, s, t, e, h, g => by
    have st : s = t := bytesOf_inj (by
      have e1 : s.data.toList = t.data.toList := by rw [← ByteArray.toList_eq, ← ByteArray.toList_eq, e]
      unfold bytesOf; rw [e1])
    subst st
    rw [comes_one m n _ _ rfl h.2.2 g.2.2]
theorem pigeon {α : Type} [DecidableEq α] : ∀ (v l : List α), v.Nodup → (∀ x ∈ v, x ∈ l) → v.length ≤ l.length
  | [], l, _, _ => Nat.zero_le _
  | x :: v, l, hn, h => by
    have hx := h x List.mem_cons_self
    rw [List.nodup_cons] at hn
    have := pigeon v (l.erase x) hn.2 (fun y hy => (List.mem_erase_of_ne (fun e => by subst e; exact hn.1 hy)).2 (h y (List.mem_cons_of_mem _ hy)))
    rw [List.length_erase_of_mem hx] at this
    have := List.length_pos_of_mem hx
    rw [List.length_cons]; omega
theorem comes_le {f : ByteArray → ByteArray × Bool} {l : List (List UInt8)} (hl : ∀ s, (f s).2 = true → s.toList ∈ l) {m : Nat} {s : ByteArray} (h : Comes f m s) : m ≤ l.length := by
  have key : ∀ (m : Nat) (s : ByteArray), Comes f m s → ∃ v : List (List UInt8), v.length = m ∧ v.Nodup ∧ ∀ x ∈ v, x ∈ l ∧ ∃ k t, k < m + 1 ∧ 1 ≤ k ∧ t.toList = x ∧ Comes f k t := by
    intro m
    induction m with
    | zero => intro s h; exact ⟨[], rfl, List.nodup_nil, fun x hx => by cases hx⟩
    | succ m ih =>
      intro s h
      obtain ⟨v, h1, h2, h3⟩ := ih _ h.2.2
      refine ⟨s.toList :: v, by simp [h1], List.nodup_cons.2 ⟨fun hm => ?_, h2⟩, fun x hx => ?_⟩
      · obtain ⟨_, k, t, hk, _, ht, hc⟩ := h3 _ hm
        have := comes_one k (m + 1) t s ht hc h
        omega
      · rcases List.mem_cons.1 hx with rfl | hx
        · exact ⟨hl s h.2.1, m + 1, s, by omega, by omega, rfl, h⟩
        · obtain ⟨q, k, t, hk, r⟩ := h3 x hx
          exact ⟨q, k, t, by omega, r⟩
  obtain ⟨v, h1, h2, h3⟩ := key m s h
  rw [← h1]
  exact pigeon v l h2 fun x hx => (h3 x hx).1
theorem up_same (y0 : List T100) (y1 : List T106) : implUp y0 y1 = specUp y0 y1 := by
  funext s; unfold implUp specUp; rw [class_same]
theorem chain_same (y0 : List T100) (y1 : List T106) (s : ByteArray) (h : y1.length ≤ 20) : chain (implUp y0 y1) 20 ((22 - (0 : Int)).toNat + 1) s 0 = chain (specUp y0 y1) (y1.length : Int) (((y1.length : Int) + 2 - 0).toNat + 1) s 0 := by
  rw [up_same, Bool.eq_iff_iff, chain_comes _ _ _ (by omega) (by omega), chain_comes _ _ _ (by omega) (by omega)]
  constructor
  · rintro ⟨m, c, _⟩
    have := comes_le (l := y1.map fun c => c.1.toList) (fun s hs => class_found y0 y1 s hs) c
    rw [List.length_map] at this
    exact ⟨m, c, by omega⟩
  · rintro ⟨m, c, hm⟩; exact ⟨m, c, by omega⟩
def attrsOk (y0 : List T100) (y1 : List T106) (l : List ByteArray) : Bool := l.all fun a => (spec_l3Type.v (y0, y1, ()) a).2.1
theorem l84_all (y0 : List T100) (y1 : List T106) (z : Bool) : ∀ (rest : List ByteArray) (i : Nat), spec_GoodDirSchema.l84.v y0 y1 z rest i = (attrsOk y0 y1 rest && z)
  | [], i => by unfold spec_GoodDirSchema.l84.v attrsOk; rfl
  | e :: rest, i => by
    unfold spec_GoodDirSchema.l84.v
    rw [l84_all y0 y1 z rest]
    unfold attrsOk
    rw [List.all_cons]
    dsimp only
    cases (spec_l3Type.v (y0, y1, ()) e).2.1 <;> simp
theorem l92_all (y0 : List T100) (y1 : List T106) (z : Bool) : ∀ (rest : List ByteArray) (i : Nat), impl_GoodDirSchema.l92.v y0 y1 z rest i = (attrsOk y0 y1 rest && z)
  | [], i => by unfold impl_GoodDirSchema.l92.v attrsOk; rfl
  | e :: rest, i => by
    unfold impl_GoodDirSchema.l92.v
    rw [l92_all y0 y1 z rest]
    unfold attrsOk
    rw [List.all_cons, type_same]
    dsimp only
    cases (spec_l3Type.v (y0, y1, ()) e).2.1 <;> simp
theorem class_step (x : List T106) (y0 : List T100) (a b : Int) (hx : x.length ≤ 20) (e : T106) (z : Bool) :
    impl_GoodDirSchema.l70.v x a b y0 x e.1 e.2.1 e.2.2.1 e.2.2.2.1 z [e.2.2.1, e.2.2.2.1] 0 =
    (if ((e.2.2.1.length : Int) : Int) > 30 then false else (if ((e.2.2.2.1.length : Int) : Int) > 30 then false else (if spec_l3Rising.v e.2.2.1 = true then (if spec_l3Rising.v e.2.2.2.1 = true then spec_GoodDirSchema.l70.v x a b y0 x e.2.1 z [e.2.2.1, e.2.2.2.1] 0 else false) else false))) := by
  simp only [impl_GoodDirSchema.l70.v, spec_GoodDirSchema.l70.v, l84_all, l92_all, rising_same]
  unfold impl_GoodDirSchema.l119.v spec_GoodDirSchema.l111.v
  rw [show ((22 - (0 : Int)).toNat + 1) = 23 from rfl] at *
  have hc := chain_same y0 x e.2.1 hx
  rw [show ((22 - (0 : Int)).toNat + 1) = 23 from rfl] at hc
  rw [hc]
  generalize chain (specUp y0 x) _ _ e.2.1 0 = G
  generalize attrsOk y0 x e.2.2.1 = E
  generalize attrsOk y0 x e.2.2.2.1 = F
  generalize spec_l3Rising.v e.2.2.1 = C
  generalize spec_l3Rising.v e.2.2.2.1 = D
  by_cases A : (e.2.2.1.length : Int) > 30 <;> by_cases B : (e.2.2.2.1.length : Int) > 30 <;> cases C <;> cases D <;> cases E <;> cases F <;> cases G <;> cases z <;> simp [A, B]
theorem classes_same (x : List T106) (y0 : List T100) (hx : x.length ≤ 20) : ∀ (rest : List T106) (i : Nat), impl_GoodDirSchema.l47.v x y0 rest i = spec_GoodDirSchema.l47.v x y0 rest i
  | [], i => by unfold impl_GoodDirSchema.l47.v spec_GoodDirSchema.l47.v; rfl
  | e :: rest, i => by
    unfold impl_GoodDirSchema.l47.v spec_GoodDirSchema.l47.v
    rw [class_step x y0 _ _ hx, classes_same x y0 hx rest]
    dsimp only [impl_GoodName.v, spec_GoodName.v, spec_l1CmpText.v]
    cases goodName e.1 with
    | false => simp
    | true =>
      simp only [if_true]
      by_cases hi : (i : Int) > 0
      · rw [if_pos hi, if_pos hi]
        by_cases c : cmpT (rd Z106 x (wrap64 ((i : Int) - 1))).1 e.1 ≥ 0
        · rw [if_pos c, if_neg (fun q => (less_not _ _).1 q c)]
        · rw [if_neg c, if_pos ((less_not _ _).2 c)]
      · rw [if_neg hi, if_neg hi]
theorem types_same (x : List T100) (y1 : List T106) (hx : y1.length ≤ 20) : ∀ (rest : List T100) (i : Nat), impl_GoodDirSchema.l14.v x y1 rest i = spec_GoodDirSchema.l14.v x y1 rest i
  | [], i => by unfold impl_GoodDirSchema.l14.v spec_GoodDirSchema.l14.v; rw [type_same, classes_same y1 x hx]
  | e :: rest, i => by
    unfold impl_GoodDirSchema.l14.v spec_GoodDirSchema.l14.v
    rw [types_same x y1 hx rest]
    dsimp only [impl_GoodName.v, spec_GoodName.v, spec_l1CmpText.v]
    cases goodName e.1 with
    | false => simp
    | true =>
      simp only [if_true]
      by_cases hi : (i : Int) > 0
      · rw [if_pos hi, if_pos hi]
        by_cases c : cmpT (rd Z100 x (wrap64 ((i : Int) - 1))).1 e.1 ≥ 0
        · rw [if_pos c, if_neg (fun q => (less_not _ _).1 q c)]; simp
        · rw [if_neg c, if_pos ((less_not _ _).2 c)]
      · rw [if_neg hi, if_neg hi]
theorem schema_same (a : T61) : impl_GoodDirSchema.v a = spec_GoodDirSchema.v a := by
  unfold impl_GoodDirSchema.v spec_GoodDirSchema.v
  by_cases h : (a.1.length : Int) > 40
  · rw [if_pos h, if_pos h]
  · rw [if_neg h, if_neg h]
    by_cases g : (a.2.1.length : Int) > 20
    · rw [if_pos g, if_pos g]
    · rw [if_neg g, if_neg g]; exact types_same _ _ (by omega) _ _
theorem fit_sm : ∀ (s : Sh) (x : sem s), smSh s x → fitSh s x
  | .int k, x, h => h
  | .bool, x, h => trivial
  | .str, x, h => by have h : (x : ByteArray).size ≤ 1048576 := h; show (x : ByteArray).size ≤ 140737488351232; omega
  | .unit, x, h => trivial
  | .pair a b, x, h => ⟨fit_sm a x.1 h.1, fit_sm b x.2 h.2⟩
  | .list t, x, h => by
    have h1 : List.length (α := sem t) x ≤ 1048576 := h.1
    exact ⟨by show List.length (α := sem t) x ≤ _; omega, fun y hy => fit_sm t y (h.2 y hy)⟩
theorem Pure.FnExactGoodDirSchema : laws_FnExactGoodDirSchema.Pure := by
  intro a fa
  apply Ev.rounds
  obtain ⟨z, e, _, _, hz⟩ := szDirSchema_ok a 1048576 (by omega) (by omega) fa
  refine Ev.fn (fun k => laws_FnExactGoodDirSchema.f_eq k a) (e.bind (Ev.ite (fun _ => Ev.now _) fun h => ?_))
  have sm := hz (by omega)
  refine (toDirSchema_ev a sm).bind ((spec_GoodDirSchema.v_ev a fa).1.bind ((toDirSchema_ev a sm).bind ((impl_GoodDirSchema.v_ev a fa).1.bind (Ev.no (by rw [schema_same]; simp) ((toDirSchema_ev a sm).bind ((eqDirSchema_ev a sm).bind (Ev.yes rfl (Ev.now _))))))))

end Go.Proofs.Ytbkeooaepmiafaa.PB
