-- The plain law of this claim: no program in sight but the equations of its functions.
import Derived.Test.YtbkeooaepmiafaaFitFnExactCaveatHolds
import Derived.Test.YtbkeooaepmiafaaDenP
namespace Go.Proofs.Ytbkeooaepmiafaa.PA
open Go Go.Den
open Go.RowKit (wrap64)
set_option linter.unusedVariables false
/-! ### the law's measure -/
def SzP (g : Nat → Nat → Option Int) (m : Int) (P : Prop) : Prop := ∃ r, Ev g r ∧ -1 ≤ r ∧ r ≤ m ∧ (0 ≤ r → P)
theorem SzP.now {r m : Int} {P : Prop} (h : -1 ≤ r) (h1 : r ≤ m) (p : P) : SzP (fun _ _ => some r) m P := ⟨r, Ev.now _, h, h1, fun _ => p⟩
theorem SzP.cut {c : Prop} {inst : Decidable c} {B : Nat → Nat → Option Int} {m : Int} {P : Prop} (hm : -1 ≤ m) (h : ¬ c → SzP B m P) : SzP (fun K j => @ite _ c inst (some (-1)) (B K j)) m P := by
  by_cases e : c
  · exact ⟨-1, Ev.yes e (Ev.now _), by omega, hm, fun h => by omega⟩
  · obtain ⟨r, q, q1, q2, q3⟩ := h e
    exact ⟨r, Ev.no e q, q1, q2, q3⟩
theorem SzP.bind {g : Nat → Nat → Option Int} {f : Nat → Nat → Int → Option Int} {m m' : Int} {P P' : Prop} (h : SzP g m' P') (hm : -1 ≤ m) (k : ∀ r, 0 ≤ r → r ≤ m' → P' → SzP (fun K j => f K j r) m P) :
    SzP (fun K j => (g K j).bind fun t => if t < 0 then some (-1) else f K j t) m P := by
  obtain ⟨r, q, q1, q2, q3⟩ := h
  by_cases e : r < 0
  · exact ⟨-1, q.bind (Ev.yes e (Ev.now _)), by omega, hm, fun h => by omega⟩
  · obtain ⟨s, z, z1, z2, z3⟩ := k r (by omega) q2 (q3 (by omega))
    exact ⟨s, q.bind (Ev.no e z), z1, z2, z3⟩
theorem SzP.fn {f B : Nat → Option Int} {m : Int} {P : Prop} (e : ∀ k, f (k + 1) = B k) (h : SzP (fun K _ => B K) m P) : SzP (fun K _ => f K) m P := by
  obtain ⟨r, q, q1, q2, q3⟩ := h; exact ⟨r, Ev.fn e q, q1, q2, q3⟩
theorem SzP.imp {g : Nat → Nat → Option Int} {m m' : Int} {P P' : Prop} (h : SzP g m P) (hm : m ≤ m') (hp : P → P') : SzP g m' P' := by
  obtain ⟨r, q, q1, q2, q3⟩ := h; exact ⟨r, q, q1, by omega, fun z => hp (q3 z)⟩

/-! ### what the law's measure leaves: everything is short -/
def smSh : (s : Sh) → sem s → Prop
  | .int k, x => (Lit.int k x).wf = true
  | .bool, _ => True
  | .str, s => (s : ByteArray).size ≤ 1048576
  | .unit, _ => True
  | .pair a b, x => smSh a x.1 ∧ smSh b x.2
  | .list t, l => (l : List (sem t)).length ≤ 1048576 ∧ allIn (α := sem t) l (smSh t)
theorem SzP.len {g : Nat → Nat → Option Int} {m : Int} {P : Prop} (h : SzP g m P) (q : P) : SzP g m P := h
/-- a loop that measures a row's elements -/
theorem sz_row {α : Type} {L : Nat → Nat → Int → Int → Option Int} {l : List α} {P : α → Prop}
    (step : ∀ (i : Nat) (h : i < l.length) (m : Int), 0 ≤ m → m ≤ 1048576 → ∃ r, -1 ≤ r ∧ r ≤ m ∧ (0 ≤ r → P l[i]) ∧ (r < 0 → Ev (fun K j => L K j m (i : Int)) (-1)) ∧ (0 ≤ r → ∀ s, Ev (fun K j => L K j r ((i + 1 : Nat) : Int)) s → Ev (fun K j => L K j m (i : Int)) s))
    (done : ∀ m : Int, Ev (fun K j => L K j m (l.length : Int)) m) : ∀ (d i : Nat) (m : Int), l.length = i + d → 0 ≤ m → m ≤ 1048576 → SzP (fun K j => L K j m (i : Int)) m (∀ x ∈ l.drop i, P x) := by
  intro d
  induction d with
  | zero =>
    intro i m h h0 h1
    obtain rfl : i = l.length := by omega
    exact ⟨m, done m, by omega, by omega, fun _ x hx => by rw [List.drop_length] at hx; cases hx⟩
  | succ d ih =>
    intro i m h h0 h1
    obtain ⟨r, r1, r2, r3, r4, r5⟩ := step i (by omega) m h0 h1
    by_cases hr : r < 0
    · exact ⟨-1, r4 hr, by omega, by omega, fun h => by omega⟩
    · obtain ⟨s, q, q1, q2, q3⟩ := ih (i + 1) r (by omega) (by omega) (by omega)
      refine ⟨s, r5 (by omega) s q, q1, by omega, fun hs x hx => ?_⟩
      rw [List.drop_eq_getElem_cons (show i < l.length by omega)] at hx
      rcases List.mem_cons.1 hx with rfl | hx
      · exact r3 (by omega)
      · exact q3 hs x hx
theorem SzP.loop {L : Nat → Nat → Int → Int → Option Int} {m : Int} {P P' : Prop} (h : SzP (fun K j => L K j m 0) m P) (hp : P → P') : SzP (fun K _ => L K K m 0) m P' := by
  obtain ⟨r, q, q1, q2, q3⟩ := h
  exact ⟨r, Ev.diag q, q1, q2, fun z => hp (q3 z)⟩

/-! ### good names -/
def pDigit (a : Int) : Bool := decide (48 ≤ a ∧ a ≤ 57)
def pLetter (a : Int) : Bool := decide (97 ≤ a ∧ a ≤ 122 ∨ 65 ≤ a ∧ a ≤ 90)
def pWord (a : Int) : Bool := pLetter a || pDigit a || decide (a = 95)
def goodName (s : ByteArray) : Bool := decide (1 ≤ s.size ∧ s.size ≤ 30) && !pDigit (bt s 0) && (bytesOf s).all pWord
theorem spec_l1Digit_ev (a : Int) : Ev (fun K _ => spec_l1Digit.f K a) (pDigit a) := by
  refine Ev.fn (fun k => spec_l1Digit.f_eq k a) ?_
  unfold pDigit
  exact Ev.ite (fun _ => Ev.some (by (first | rfl | exact decide_eq_decide.2 (by omega) | exact (decide_eq_false (by omega)).symm | exact (decide_eq_true (by omega)).symm))) fun _ => Ev.some (by (first | rfl | exact decide_eq_decide.2 (by omega) | exact (decide_eq_false (by omega)).symm | exact (decide_eq_true (by omega)).symm))
theorem impl_ydigit_ev (a : Int) : Ev (fun K _ => impl_ydigit.f K a) (pDigit a) := by
  refine Ev.fn (fun k => impl_ydigit.f_eq k a) ?_
  unfold pDigit
  exact Ev.ite (fun _ => Ev.some (by (first | rfl | exact decide_eq_decide.2 (by omega) | exact (decide_eq_false (by omega)).symm | exact (decide_eq_true (by omega)).symm))) fun _ => Ev.some (by (first | rfl | exact decide_eq_decide.2 (by omega) | exact (decide_eq_false (by omega)).symm | exact (decide_eq_true (by omega)).symm))
theorem spec_l1Letter_ev (a : Int) : Ev (fun K _ => spec_l1Letter.f K a) (pLetter a) := by
  refine Ev.fn (fun k => spec_l1Letter.f_eq k a) ?_
  unfold pLetter
  exact Ev.ite (fun _ => Ev.ite (fun _ => Ev.some (by (first | rfl | exact decide_eq_decide.2 (by omega) | exact (decide_eq_false (by omega)).symm | exact (decide_eq_true (by omega)).symm))) fun _ => Ev.ite (fun _ => Ev.some (by (first | rfl | exact decide_eq_decide.2 (by omega) | exact (decide_eq_false (by omega)).symm | exact (decide_eq_true (by omega)).symm))) fun _ => Ev.some (by (first | rfl | exact decide_eq_decide.2 (by omega) | exact (decide_eq_false (by omega)).symm | exact (decide_eq_true (by omega)).symm))) fun _ => Ev.ite (fun _ => Ev.some (by (first | rfl | exact decide_eq_decide.2 (by omega) | exact (decide_eq_false (by omega)).symm | exact (decide_eq_true (by omega)).symm))) fun _ => Ev.some (by (first | rfl | exact decide_eq_decide.2 (by omega) | exact (decide_eq_false (by omega)).symm | exact (decide_eq_true (by omega)).symm))
theorem impl_yletter_ev (a : Int) : Ev (fun K _ => impl_yletter.f K a) (pLetter a) := by
  refine Ev.fn (fun k => impl_yletter.f_eq k a) ?_
  unfold pLetter
  exact Ev.ite (fun _ => Ev.ite (fun _ => Ev.some (by (first | rfl | exact decide_eq_decide.2 (by omega) | exact (decide_eq_false (by omega)).symm | exact (decide_eq_true (by omega)).symm))) fun _ => Ev.ite (fun _ => Ev.some (by (first | rfl | exact decide_eq_decide.2 (by omega) | exact (decide_eq_false (by omega)).symm | exact (decide_eq_true (by omega)).symm))) fun _ => Ev.some (by (first | rfl | exact decide_eq_decide.2 (by omega) | exact (decide_eq_false (by omega)).symm | exact (decide_eq_true (by omega)).symm))) fun _ => Ev.ite (fun _ => Ev.some (by (first | rfl | exact decide_eq_decide.2 (by omega) | exact (decide_eq_false (by omega)).symm | exact (decide_eq_true (by omega)).symm))) fun _ => Ev.some (by (first | rfl | exact decide_eq_decide.2 (by omega) | exact (decide_eq_false (by omega)).symm | exact (decide_eq_true (by omega)).symm))
theorem impl_ywordByte_ev (a : Int) : Ev (fun K _ => impl_ywordByte.f K a) (pWord a) := by
  refine Ev.fn (fun k => impl_ywordByte.f_eq k a) ?_
  unfold pWord
  exact (impl_yletter_ev a).bind (Ev.ite (fun h => Ev.some (by rw [h]; rfl)) fun h => (impl_ydigit_ev a).bind (Ev.ite (fun g => Ev.some (by rw [g]; simp)) fun g => Ev.some (by rw [Bool.eq_false_iff.2 h, Bool.eq_false_iff.2 g]; rfl)))
theorem spec_GoodName_ev (s : ByteArray) (hs : s.size ≤ 140737488351232) : Ev (fun K _ => spec_GoodName.f K s) (goodName s) := by
  refine Ev.fn (fun k => spec_GoodName.f_eq k s) ?_
  unfold goodName
  refine Ev.ite (fun h => Ev.some (by rw [decide_eq_false (by omega)]; rfl)) fun h => Ev.ite (fun h' => Ev.some (by rw [decide_eq_false (by omega)]; rfl)) fun h' => Ev.yes (by omega) ((spec_l1Digit_ev _).bind ?_)
  rw [decide_eq_true (by omega), Bool.true_and]
  refine Ev.ite (fun g => Ev.some (by rw [g]; rfl)) fun g => ?_
  rw [Bool.eq_false_iff.2 g, Bool.not_false, Bool.true_and]
  refine Ev.diag (loop_all (L := fun K j i => spec_GoodName.l14 K j s i) (fun i h hp r hr => ?_) (fun i h hp => ?_) ?_)
  · refine Ev.lp (fun K j => spec_GoodName.l14_eq K j s i) (Ev.yes (by omega) (Ev.yes (by omega) ((spec_l1Letter_ev _).bind ?_)))
    rw [wrap_nat (by omega)]
    refine Ev.ite (fun _ => hr) fun h1 => Ev.yes (by omega) ((spec_l1Digit_ev _).bind (Ev.ite (fun _ => hr) fun h2 => Ev.yes (by omega) (Ev.ite (fun _ => hr) fun h3 => ?_)))
    exfalso
    unfold pWord at hp
    simp [h1, h2, h3] at hp
  · refine Ev.lp (fun K j => spec_GoodName.l14_eq K j s i) (Ev.yes (by omega) (Ev.yes (by omega) ((spec_l1Letter_ev _).bind ?_)))
    unfold pWord at hp
    simp only [Bool.or_eq_false_iff, decide_eq_false_iff_not] at hp
    exact Ev.no (by simp [hp.1.1]) (Ev.yes (by omega) ((spec_l1Digit_ev _).bind (Ev.no (by simp [hp.1.2]) (Ev.yes (by omega) (Ev.no hp.2 (Ev.now _))))))
  · exact Ev.lp (fun K j => spec_GoodName.l14_eq K j s _) (Ev.no (by omega) (Ev.now _))
theorem impl_GoodName_ev (s : ByteArray) (hs : s.size ≤ 140737488351232) : Ev (fun K _ => impl_GoodName.f K s) (goodName s) := by
  refine Ev.fn (fun k => impl_GoodName.f_eq k s) ?_
  unfold goodName
  refine Ev.ite (fun h => Ev.some (by rw [size_nil] at h; rw [decide_eq_false (by omega)]; rfl)) fun h => Ev.ite (fun h' => Ev.some (by rw [decide_eq_false (by omega)]; rfl)) fun h' => ?_
  rw [size_nil] at h
  refine Ev.yes (by omega) ((impl_ydigit_ev _).bind ?_)
  rw [decide_eq_true (by omega), Bool.true_and]
  refine Ev.ite (fun g => Ev.some (by rw [g]; rfl)) fun g => ?_
  rw [Bool.eq_false_iff.2 g, Bool.not_false, Bool.true_and]
  refine Ev.diag (loop_all (L := fun K j i => impl_GoodName.l14 K j s (s.size : Int) i) (fun i h hp r hr => ?_) (fun i h hp => ?_) ?_)
  · refine Ev.lp (fun K j => impl_GoodName.l14_eq K j s _ i) (Ev.yes (by omega) (Ev.yes (by omega) ((impl_ywordByte_ev _).bind (Ev.yes hp ?_))))
    rw [wrap_nat (by omega)]; exact hr
  · exact Ev.lp (fun K j => impl_GoodName.l14_eq K j s _ i) (Ev.yes (by omega) (Ev.yes (by omega) ((impl_ywordByte_ev _).bind (Ev.no (by simp [hp]) (Ev.now _)))))
  · exact Ev.lp (fun K j => impl_GoodName.l14_eq K j s _ _) (Ev.no (by omega) (Ev.now _))

/-! ### values beside their measure -/
theorem wf_range {k : IntKind} {x : Int} (h : k.min ≤ x ∧ x ≤ k.max) : (Lit.int k x).wf = true := by
  simp [Lit.wf]; exact h
theorem fit_bool (b : Bool) : fitSh .bool b := trivial
theorem fit_unit : fitSh .unit () := trivial
theorem fit_pair {a b : Sh} {x : sem a} {y : sem b} (h : fitSh a x) (g : fitSh b y) : fitSh (.pair a b) (x, y) := ⟨h, g⟩
theorem fit_lst {t : Sh} {l : List (sem t)} (h : l.length ≤ 140737488351232) (g : allIn (α := sem t) l (fitSh t)) : fitSh (.list t) l := ⟨h, g⟩
theorem fit_dflt : ∀ s : Sh, fitSh s (dflt s)
  | .int k => by cases k <;> rfl
  | .bool => trivial
  | .str => by show (0 : Nat) ≤ _; omega
  | .unit => trivial
  | .pair a b => ⟨fit_dflt a, fit_dflt b⟩
  | .list t => ⟨Nat.zero_le _, fun x hx => by cases hx⟩
theorem fit_rd {t : Sh} {l : List (sem t)} (h : fitSh (.list t) l) (i : Int) : fitSh t (rd (dflt t) l i) := by
  unfold rd
  rw [List.getD_eq_getElem?_getD]
  cases hi : l[i.toNat]? with
  | none => exact fit_dflt t
  | some x => exact h.2 x (List.mem_of_getElem? hi)
theorem fit_cut {t : Sh} {l : List (sem t)} (h : fitSh (.list t) l) (a b : Int) : fitSh (.list t) (cut l a b) := by
  unfold cut
  refine ⟨?_, fun x hx => h.2 x (List.mem_of_mem_take (List.mem_of_mem_drop hx))⟩
  have h1 : l.length ≤ 140737488351232 := h.1
  show List.length _ ≤ _
  rw [List.length_drop, List.length_take]; omega
theorem fit_nil {t : Sh} : fitSh (.list t) ([] : List (sem t)) := ⟨Nat.zero_le _, fun x hx => by cases hx⟩
theorem fit_cons {t : Sh} {x : sem t} {l : List (sem t)} (hx : fitSh t x) (h : allIn (α := sem t) l (fitSh t)) : allIn (α := sem t) (x :: l) (fitSh t) := fun y hy => by
  rcases List.mem_cons.1 hy with rfl | hy
  · exact hx
  · exact h y hy
theorem fit_cutS {s : ByteArray} (h : fitSh .str s) (a b : Int) : fitSh .str (cutS s a b) := by
  have h : s.size ≤ 140737488351232 := h
  show (s.extract a.toNat b.toNat).size ≤ _
  rw [ByteArray.size_extract]; omega
theorem fit_len {n : Nat} (h : n ≤ 140737488351232) : fitSh (.int .i64) (n : Int) := wf_range (by simp only [IntKind.min, IntKind.max, IntKind.signed, IntKind.bits]; constructor <;> simp <;> omega)
theorem fit_wrap (x : Int) : fitSh (.int .i64) (wrap64 x) := wf_range (by simp only [IntKind.min, IntKind.max, IntKind.signed, IntKind.bits]; unfold wrap64; constructor <;> simp <;> omega)
theorem fit_i64 {x : Int} (h : -9223372036854775808 ≤ x ∧ x ≤ 9223372036854775807) : fitSh (.int .i64) x := wf_range (by simp only [IntKind.min, IntKind.max, IntKind.signed, IntKind.bits]; constructor <;> simp <;> omega)
theorem i64_of {x : Int} (h : fitSh (.int .i64) x) : -9223372036854775808 ≤ x ∧ x ≤ 9223372036854775807 := by
  have h : (Lit.int .i64 x).wf = true := h
  simp [Lit.wf, IntKind.min, IntKind.max, IntKind.signed, IntKind.bits] at h
  omega
theorem fit_bytes {s : ByteArray} (h : Nat.ble s.size 140737488351232 = true) : fitSh .str s := Nat.le_of_ble_eq_true h
theorem fit_u8 {x : Int} (h : 0 ≤ x ∧ x ≤ 255) : fitSh (.int .u8) x := wf_range (by simp only [IntKind.min, IntKind.max, IntKind.signed, IntKind.bits]; constructor <;> simp <;> omega)
theorem fit_bt (s : ByteArray) (i : Int) : fitSh (.int .u8) (bt s i) := fit_u8 (bt_range s i)
theorem fit_wfb {k : IntKind} {x : Int} (h : (Lit.int k x).wf = true) : fitSh (.int k) x := h
def EvF (s : Sh) (g : Nat → Nat → Option (sem s)) (r : sem s) : Prop := Ev g r ∧ fitSh s r
section
variable {s s' : Sh} {r : sem s}
theorem EvF.some {a : sem s} (h : a = r) (f : fitSh s r) : EvF s (fun _ _ => Option.some a) r := ⟨Ev.some h, f⟩
theorem EvF.now (f : fitSh s r) : EvF s (fun _ _ => Option.some r) r := ⟨Ev.now r, f⟩
theorem EvF.yes {c : Prop} {inst : Decidable c} {A B : Nat → Nat → Option (sem s)} (h : c) (k : EvF s A r) : EvF s (fun K j => @ite _ c inst (A K j) (B K j)) r := ⟨k.1.congr fun _ _ => if_pos h, k.2⟩
theorem EvF.no {c : Prop} {inst : Decidable c} {A B : Nat → Nat → Option (sem s)} (h : ¬ c) (k : EvF s B r) : EvF s (fun K j => @ite _ c inst (A K j) (B K j)) r := ⟨k.1.congr fun _ _ => if_neg h, k.2⟩
theorem EvF.ite {c : Prop} {inst : Decidable c} {A B : Nat → Nat → Option (sem s)} {x y : sem s} (h : c → EvF s A x) (k : ¬ c → EvF s B y) : EvF s (fun K j => @ite _ c inst (A K j) (B K j)) (@ite _ c inst x y) := by
  by_cases e : c
  · rw [if_pos e]; exact EvF.yes e (h e)
  · rw [if_neg e]; exact EvF.no e (k e)
theorem EvF.bind {g : Nat → Nat → Option (sem s')} {f : Nat → Nat → sem s' → Option (sem s)} {a : sem s'} (h : EvF s' g a) (k : fitSh s' a → EvF s (fun K j => f K j a) r) : EvF s (fun K j => (g K j).bind (f K j)) r :=
  ⟨h.1.bind (k h.2).1, (k h.2).2⟩
theorem EvF.fn {f B : Nat → Option (sem s)} (e : ∀ k, f (k + 1) = B k) (h : EvF s (fun K _ => B K) r) : EvF s (fun K _ => f K) r := ⟨Ev.fn e h.1, h.2⟩
theorem EvF.lp {L B : Nat → Nat → Option (sem s)} (e : ∀ K j, L K (j + 1) = B K j) (h : EvF s B r) : EvF s L r := ⟨Ev.lp e h.1, h.2⟩
theorem EvF.diag {L : Nat → Nat → Option (sem s)} (h : EvF s L r) : EvF s (fun K _ => L K K) r := ⟨Ev.diag h.1, h.2⟩
end
theorem drop_more {α : Type} {l : List α} {i : Nat} {x : α} {r : List α} (h : l.drop i = x :: r) : i < l.length ∧ l.drop (i + 1) = r ∧ ∀ z, rd z l (i : Int) = x := by
  have hi : i < l.length := by
    rcases Nat.lt_or_ge i l.length with q | q
    · exact q
    · rw [List.drop_eq_nil_of_le q] at h; cases h
  rw [List.drop_eq_getElem_cons hi] at h
  obtain ⟨h1, h2⟩ := List.cons.inj h
  exact ⟨hi, h2, fun z => by rw [rd_at z l i hi]; exact h1⟩
theorem drop_none {α : Type} {l : List α} {i : Nat} (h : l.drop i = []) : l.length ≤ i := by
  have := congrArg List.length h
  rw [List.length_drop] at this
  simp at this; omega
theorem bdrop_more {s : ByteArray} {i : Nat} {x : Int} {r : List Int} (h : (bytesOf s).drop i = x :: r) : i < s.size ∧ (bytesOf s).drop (i + 1) = r ∧ bt s (i : Int) = x := by
  have hi : i < s.size := by
    rcases Nat.lt_or_ge i s.size with q | q
    · exact q
    · rw [List.drop_eq_nil_of_le (by rw [bytesOf_length]; exact q)] at h; cases h
  rw [drop_bytes s i hi] at h
  obtain ⟨h1, h2⟩ := List.cons.inj h
  exact ⟨hi, h2, h1⟩
theorem bdrop_none {s : ByteArray} {i : Nat} (h : (bytesOf s).drop i = []) : s.size ≤ i := by
  have := congrArg List.length h
  rw [List.length_drop, bytesOf_length] at this
  simp at this; omega

abbrev spec_GoodName.v (s : ByteArray) : Bool := goodName s
theorem spec_GoodName.v_ev (s : ByteArray) (f : fitSh .str s) : EvF .bool (fun K _ => spec_GoodName.f K s) (spec_GoodName.v s) := ⟨spec_GoodName_ev s f, trivial⟩
abbrev impl_GoodName.v (s : ByteArray) : Bool := goodName s
theorem impl_GoodName.v_ev (s : ByteArray) (f : fitSh .str s) : EvF .bool (fun K _ => impl_GoodName.f K s) (impl_GoodName.v s) := ⟨impl_GoodName_ev s f, trivial⟩

theorem spec_l1CmpNum_ev (a b : Int) : Ev (fun K _ => spec_l1CmpNum.f K a b) (if a < b then -1 else if a > b then 1 else 0) :=
  Ev.fn (fun k => spec_l1CmpNum.f_eq k a b) (Ev.ite (fun h => Ev.some (by rw [if_pos h])) fun h => Ev.ite (fun g => Ev.some (by rw [if_neg h, if_pos g])) fun g => Ev.some (by rw [if_neg h, if_neg g]))
/-! ### the order of texts -/
def cmpL : List Int → List Int → Int
  | [], [] => 0
  | [], _ :: _ => -1
  | _ :: _, [] => 1
  | a :: l, b :: m => if a = b then cmpL l m else if a < b then -1 else 1
def cmpT (s t : ByteArray) : Int := cmpL (bytesOf s) (bytesOf t)
theorem cmpL_refl : ∀ l : List Int, cmpL l l = 0
  | [] => rfl
  | a :: l => by unfold cmpL; rw [if_pos rfl]; exact cmpL_refl l
theorem cmpL_zero : ∀ {l m : List Int}, cmpL l m = 0 → l = m
  | [], [], _ => rfl
  | [], _ :: _, h => by simp [cmpL] at h
  | _ :: _, [], h => by simp [cmpL] at h
  | a :: l, b :: m, h => by
    unfold cmpL at h
    by_cases e : a = b
    · rw [if_pos e] at h
      rw [e, cmpL_zero h]
    · rw [if_neg e] at h
      split at h <;> omega
theorem cmpL_anti : ∀ (l m : List Int), cmpL m l = - cmpL l m
  | [], [] => rfl
  | [], _ :: _ => rfl
  | _ :: _, [] => rfl
  | a :: l, b :: m => by
    unfold cmpL
    by_cases e : a = b
    · rw [if_pos e, if_pos e.symm]; exact cmpL_anti l m
    · rw [if_neg e, if_neg (Ne.symm e)]
      by_cases h : a < b
      · rw [if_pos h, if_neg (by omega)]; rfl
      · rw [if_neg h, if_pos (by omega)]
theorem cmpL_range (l m : List Int) : cmpL l m = -1 ∨ cmpL l m = 0 ∨ cmpL l m = 1 := by
  induction l generalizing m with
  | nil => cases m <;> simp [cmpL]
  | cons a l ih =>
    cases m with
    | nil => simp [cmpL]
    | cons b m =>
      unfold cmpL
      by_cases e : a = b
      · rw [if_pos e]; exact ih m
      · rw [if_neg e]; split <;> simp
theorem bytesOf_inj {s t : ByteArray} (h : bytesOf s = bytesOf t) : s = t := by
  have e : s.data.toList = t.data.toList := by
    unfold bytesOf at h
    have inj : ∀ (l m : List UInt8), l.map (fun b => (b.toNat : Int)) = m.map (fun b => (b.toNat : Int)) → l = m := by
      intro l
      induction l with
      | nil => intro m h; cases m with
        | nil => rfl
        | cons b m => simp at h
      | cons a l ih => intro m h; cases m with
        | nil => simp at h
        | cons b m =>
          simp only [List.map_cons, List.cons.injEq] at h
          obtain ⟨h1, h2⟩ := h
          have h3 : a.toNat = b.toNat := by omega
          rw [ih m h2, UInt8.toNat_inj.1 h3]
    exact inj _ _ h
  cases s; cases t
  simp only [ByteArray.mk.injEq]
  exact Array.ext' e
theorem cmpT_zero {s t : ByteArray} : cmpT s t = 0 ↔ s = t :=
  ⟨fun h => bytesOf_inj (cmpL_zero h), fun h => by rw [h]; exact cmpL_refl _⟩
theorem cmpT_range (s t : ByteArray) : cmpT s t = -1 ∨ cmpT s t = 0 ∨ cmpT s t = 1 := cmpL_range _ _
theorem bytesLess_iff (s t : ByteArray) : Op.bytesLess s.toList t.toList = true ↔ cmpT s t = -1 := by
  rw [ByteArray.toList_eq, ByteArray.toList_eq]
  unfold cmpT bytesOf
  generalize s.data.toList = l
  generalize t.data.toList = m
  induction l generalizing m with
  | nil => cases m <;> simp [Op.bytesLess, cmpL]
  | cons a l ih =>
    cases m with
    | nil => simp [Op.bytesLess, cmpL]
    | cons b m =>
      simp only [List.map_cons]
      unfold cmpL Op.bytesLess
      by_cases e : a = b
      · subst e
        rw [if_pos rfl, ← ih m]
        simp
      · have hne : (a.toNat : Int) ≠ b.toNat := fun h => e (UInt8.toNat_inj.1 (by omega))
        rw [if_neg hne]
        by_cases h : a < b
        · have : (a.toNat : Int) < b.toNat := by have := UInt8.lt_iff_toNat_lt.1 h; omega
          rw [if_pos this]; simp [h]
        · have h' : ¬ (a.toNat : Int) < b.toNat := fun q => h (UInt8.lt_iff_toNat_lt.2 (by omega))
          rw [if_neg h']; simp [h, e]
theorem spec_l1CmpText_l (s t : ByteArray) (hs : s.size ≤ 140737488351232) (ht : t.size ≤ 140737488351232) : ∀ (d i : Nat), s.size = i + d → i ≤ t.size → Ev (fun K j => spec_l1CmpText.l6 K j s t (i : Int)) (cmpL ((bytesOf s).drop i) ((bytesOf t).drop i)) := by
  have bad : ∀ (i : Nat), i ≤ s.size → i ≤ t.size → (i = s.size ∨ i = t.size) → Ev (fun K _ => (spec_l1CmpNum.f K (s.size : Int) (t.size : Int)).bind fun t0 => some t0) (cmpL ((bytesOf s).drop i) ((bytesOf t).drop i)) := by
    intro i h1 h2 h3
    refine (spec_l1CmpNum_ev _ _).bind (Ev.some ?_)
    rcases h3 with rfl | rfl
    · rw [List.drop_eq_nil_of_le (by rw [bytesOf_length]; exact Nat.le_refl _)]
      by_cases h : s.size < t.size
      · rw [if_pos (by omega), drop_bytes t _ h]; rfl
      · rw [if_neg (by omega), if_neg (by omega), List.drop_eq_nil_of_le (by rw [bytesOf_length]; omega)]; rfl
    · have dz : (bytesOf t).drop t.size = [] := List.drop_eq_nil_of_le (by rw [bytesOf_length]; exact Nat.le_refl _)
      rw [dz]
      by_cases h : t.size < s.size
      · rw [if_neg (by omega), if_pos (by omega), drop_bytes s _ h]; rfl
      · rw [if_neg (by omega), if_neg (by omega), List.drop_eq_nil_of_le (by rw [bytesOf_length]; omega)]; rfl
  intro d
  induction d with
  | zero =>
    intro i h h2
    exact Ev.lp (fun K j => spec_l1CmpText.l6_eq K j s t i) (Ev.no (by omega) (bad i (by omega) h2 (Or.inl (by omega))))
  | succ d ih =>
    intro i h h2
    refine Ev.lp (fun K j => spec_l1CmpText.l6_eq K j s t i) (Ev.yes (by omega) ?_)
    by_cases h3 : i < t.size
    · refine Ev.yes (by omega) (Ev.yes (by omega) (Ev.yes (by omega) ?_))
      rw [drop_bytes s i (by omega), drop_bytes t i h3]
      unfold cmpL
      have b1 := bt_range s i
      have b2 := bt_range t i
      refine Ev.ite (fun e => ?_) fun e => Ev.yes (by omega) (Ev.yes (by omega) ((spec_l1CmpNum_ev _ _).bind (Ev.some ?_)))
      · rw [if_pos e, wrap_nat (by omega)]
        exact ih (i + 1) (by omega) (by omega)
      · rw [if_neg e, wrap_id (by omega) (by omega), wrap_id (by omega) (by omega)]
        by_cases hlt : bt s i < bt t i
        · rw [if_pos hlt, if_pos hlt]
        · rw [if_neg hlt, if_neg hlt, if_pos (by omega)]
    · exact Ev.no (by omega) (bad i (by omega) h2 (Or.inr (by omega)))
theorem spec_l1CmpText_ev (s t : ByteArray) (hs : s.size ≤ 140737488351232) (ht : t.size ≤ 140737488351232) : Ev (fun K _ => spec_l1CmpText.f K s t) (cmpT s t) :=
  Ev.fn (fun k => spec_l1CmpText.f_eq k s t) (Ev.diag (spec_l1CmpText_l s t hs ht s.size 0 (by omega) (by omega)))
theorem less_cmp (s t : ByteArray) : (Op.bytesLess s.toList t.toList = true) ↔ cmpT s t < 0 := by
  rw [bytesLess_iff]
  rcases cmpT_range s t with h | h | h <;> rw [h] <;> decide

abbrev spec_l1CmpText.v (s t : ByteArray) : Int := cmpT s t
theorem spec_l1CmpText.v_ev (s t : ByteArray) (f : fitSh .str s) (g : fitSh .str t) : EvF (.int .i64) (fun K _ => spec_l1CmpText.f K s t) (spec_l1CmpText.v s t) := ⟨spec_l1CmpText_ev s t f g, fit_i64 (by rcases cmpT_range s t with h | h | h <;> rw [spec_l1CmpText.v, h] <;> omega)⟩

/-! ### good atoms -/
def printed (s : ByteArray) : Bool := (bytesOf s).all fun b => decide (32 ≤ b ∧ b ≤ 126)
def goodAtom (a : Int × Int × ByteArray × ByteArray × Unit) : Bool :=
  if a.1 = 1 then decide (a.2.2.1.size = 0 ∧ a.2.2.2.1.size = 0 ∧ (a.2.1 = 0 ∨ a.2.1 = 1))
  else if a.1 = 2 then decide (a.2.2.1.size = 0 ∧ a.2.2.2.1.size = 0)
  else if a.1 = 5 then decide (a.2.2.1.size = 0 ∧ a.2.2.2.1.size = 0)
  else if a.1 = 3 then decide (a.2.1 = 0 ∧ a.2.2.2.1.size = 0 ∧ a.2.2.1.size ≤ 200) && printed a.2.2.1
  else if a.1 = 4 then decide (a.2.1 = 0) && (goodName a.2.2.2.1 && (decide (1 ≤ a.2.2.1.size ∧ a.2.2.1.size ≤ 200) && printed a.2.2.1))
  else if a.1 = 6 then decide (a.2.2.1.size = 0 ∧ a.2.2.2.1.size = 0 ∧ 0 ≤ a.2.1 ∧ a.2.1 % 64 ≤ 32 ∧ a.2.1 / 64 < 4294967296) && decide ((a.2.1 / 64) % 2 ^ (32 - a.2.1 % 64).toNat = 0)
  else if a.1 = 7 then decide (a.2.2.1.size = 0 ∧ a.2.2.2.1.size = 0 ∧ -100000000000 ≤ a.2.1 ∧ a.2.1 ≤ 100000000000)
  else false
theorem spec_l1Printed_ev (s : ByteArray) (hs : s.size ≤ 140737488351232) : Ev (fun K _ => spec_l1Printed.f K s) (printed s) := by
  refine Ev.fn (fun k => spec_l1Printed.f_eq k s) (Ev.diag (loop_all (L := fun K j i => spec_l1Printed.l6 K j s i) (fun i h hp r hr => ?_) (fun i h hp => ?_) ?_))
  · have hp := of_decide_eq_true hp
    refine Ev.lp (fun K j => spec_l1Printed.l6_eq K j s i) (Ev.yes (by omega) (Ev.yes (by omega) (Ev.no (by omega) (Ev.yes (by omega) (Ev.no (by omega) ?_)))))
    rw [wrap_nat (by omega)]; exact hr
  · have hp := of_decide_eq_false hp
    exact Ev.lp (fun K j => spec_l1Printed.l6_eq K j s i) (Ev.yes (by omega) (Ev.yes (by omega) (Ev.ite (fun _ => Ev.now _) fun _ => Ev.yes (by omega) (Ev.yes (by omega) (Ev.now _)))))
  · exact Ev.lp (fun K j => spec_l1Printed.l6_eq K j s _) (Ev.no (by omega) (Ev.now _))
theorem impl_yprinted_ev (s : ByteArray) (lo hi : Int) (hs : s.size ≤ 140737488351232) : Ev (fun K _ => impl_yprinted.f K s lo hi) (decide (lo ≤ s.size ∧ (s.size : Int) ≤ hi) && printed s) := by
  refine Ev.fn (fun k => impl_yprinted.f_eq k s lo hi) (Ev.ite (fun h => Ev.some (by rw [decide_eq_false (by omega)]; rfl)) fun h => Ev.ite (fun h' => Ev.some (by rw [decide_eq_false (by omega)]; rfl)) fun h' => ?_)
  rw [decide_eq_true (by omega), Bool.true_and]
  refine Ev.diag (loop_all (L := fun K j i => impl_yprinted.l14 K j s _ i) (fun i h hp r hr => ?_) (fun i h hp => ?_) ?_)
  · have hp := of_decide_eq_true hp
    refine Ev.lp (fun K j => impl_yprinted.l14_eq K j s _ i) (Ev.yes (by omega) (Ev.yes (by omega) (Ev.no (by omega) (Ev.yes (by omega) (Ev.no (by omega) ?_)))))
    rw [wrap_nat (by omega)]; exact hr
  · have hp := of_decide_eq_false hp
    exact Ev.lp (fun K j => impl_yprinted.l14_eq K j s _ i) (Ev.yes (by omega) (Ev.yes (by omega) (Ev.ite (fun _ => Ev.now _) fun _ => Ev.yes (by omega) (Ev.yes (by omega) (Ev.now _)))))
  · exact Ev.lp (fun K j => impl_yprinted.l14_eq K j s _ _) (Ev.no (by omega) (Ev.now _))
theorem pow_pos' (m : Nat) : (0 : Int) < 2 ^ m := Int.pow_pos (by decide)
theorem pow_mono {a b : Nat} (h : a ≤ b) : (2 : Int) ^ a ≤ 2 ^ b := by
  obtain ⟨d, rfl⟩ := Nat.exists_eq_add_of_le h
  rw [Int.pow_add]
  have h1 := pow_pos' a
  have h2 := pow_pos' d
  have : (2 : Int) ^ a * 1 ≤ 2 ^ a * 2 ^ d := Int.mul_le_mul_of_nonneg_left (by omega) (by omega)
  omega
theorem spec_l1Pow2_l (n : Nat) (hn : n ≤ 60) : ∀ (d i : Nat), n = i + d → Ev (fun K j => spec_l1Pow2.l8 K j (n : Int) (2 ^ i) (i : Int)) (2 ^ n) := by
  intro d
  induction d with
  | zero =>
    intro i h
    refine Ev.lp (fun K j => spec_l1Pow2.l8_eq K j _ _ _) (Ev.no (by omega) (Ev.some ?_))
    rw [h]; rfl
  | succ d ih =>
    intro i h
    refine Ev.lp (fun K j => spec_l1Pow2.l8_eq K j _ _ _) (Ev.yes (by omega) ?_)
    have z := ih (i + 1) (by omega)
    have h1 := pow_pos' (i + 1)
    have h2 := pow_mono (show i + 1 ≤ 61 by omega)
    rw [wrap_nat (by omega), show wrap64 (2 ^ i * 2) = 2 ^ (i + 1) from by rw [← Int.pow_succ]; exact wrap_id (by omega) (by omega)]
    exact z
theorem spec_l1Pow2_ev (m : Int) (h0 : 0 ≤ m) (h1 : m ≤ 60) : Ev (fun K _ => spec_l1Pow2.f K m) (2 ^ m.toNat) := by
  obtain ⟨n, rfl⟩ := Int.eq_ofNat_of_zero_le h0
  rw [Int.toNat_natCast]
  exact Ev.fn (fun k => spec_l1Pow2.f_eq k _) (Ev.diag (spec_l1Pow2_l n (by omega) n 0 (by omega)))
theorem tdiv64 {n : Int} (h0 : 0 ≤ n) (h1 : n < 9223372036854775808) : wrap64 (quoI n 64) = n / 64 := by
  unfold quoI; rw [Int.tdiv_eq_ediv_of_nonneg h0]; exact wrap_id (by omega) (by omega)
theorem tmod64 {n : Int} (h0 : 0 ≤ n) : remI n 64 = n % 64 := Int.tmod_eq_emod_of_nonneg h0
theorem bits_left {n : Int} (h : n % 64 ≤ 32) : wrap64 (32 - n % 64) = 32 - n % 64 := wrap_id (by omega) (by omega)
theorem two_small (m : Int) (h : m ≤ 32) : (0 : Int) < 2 ^ m.toNat ∧ (2 : Int) ^ m.toNat ≤ 4294967296 := by
  refine ⟨pow_pos' _, ?_⟩
  have := pow_mono (show m.toNat ≤ 32 by omega)
  omega
theorem wraps_i64 (x : Int) (h0 : -9223372036854775808 ≤ x) (h1 : x ≤ 9223372036854775807) : IntKind.i64.wrap x = x := by
  have := wrap_id h0 h1
  unfold wrap64 at this
  unfold IntKind.wrap
  simp [IntKind.bits, IntKind.signed] at *
  omega
theorem shl_one (m : Int) (h0 : 0 ≤ m) (h : m ≤ 32) : shlI .i64 1 m = 2 ^ m.toNat := by
  unfold shlI
  have h2 := two_small m h
  rw [Nat.min_eq_left (by simp [IntKind.bits]; omega), Int.one_mul]
  exact wraps_i64 _ (by omega) (by omega)
theorem spec_l1Block_ev (a : Int × Int × ByteArray × ByteArray × Unit) (h0 : 0 ≤ a.2.1) (h1 : a.2.1 < 9223372036854775808) (h : a.2.1 % 64 ≤ 32) : Ev (fun K _ => spec_l1Block.f K a) (a.2.1 / 64, 2 ^ (32 - a.2.1 % 64).toNat, ()) := by
  refine Ev.fn (fun k => spec_l1Block.f_eq k a) ?_
  rw [tmod64 h0, bits_left h, tdiv64 h0 h1]
  exact (spec_l1Pow2_ev (32 - a.2.1 % 64) (by omega) (by omega)).bind (Ev.now _)
theorem goodAtom1 {a : Int × Int × ByteArray × ByteArray × Unit} (h : a.1 = 1) : goodAtom a = decide (a.2.2.1.size = 0 ∧ a.2.2.2.1.size = 0 ∧ (a.2.1 = 0 ∨ a.2.1 = 1)) := by
  unfold goodAtom; rw [if_pos h]
theorem goodAtom2 {a : Int × Int × ByteArray × ByteArray × Unit} (h : a.1 = 2) : goodAtom a = decide (a.2.2.1.size = 0 ∧ a.2.2.2.1.size = 0) := by
  unfold goodAtom; rw [if_neg (by omega), if_pos h]
theorem goodAtom5 {a : Int × Int × ByteArray × ByteArray × Unit} (h : a.1 = 5) : goodAtom a = decide (a.2.2.1.size = 0 ∧ a.2.2.2.1.size = 0) := by
  unfold goodAtom; rw [if_neg (by omega), if_neg (by omega), if_pos h]
theorem goodAtom3 {a : Int × Int × ByteArray × ByteArray × Unit} (h : a.1 = 3) : goodAtom a = (decide (a.2.1 = 0 ∧ a.2.2.2.1.size = 0 ∧ a.2.2.1.size ≤ 200) && printed a.2.2.1) := by
  unfold goodAtom; rw [if_neg (by omega), if_neg (by omega), if_neg (by omega), if_pos h]
theorem goodAtom4 {a : Int × Int × ByteArray × ByteArray × Unit} (h : a.1 = 4) : goodAtom a = (decide (a.2.1 = 0) && (goodName a.2.2.2.1 && (decide (1 ≤ a.2.2.1.size ∧ a.2.2.1.size ≤ 200) && printed a.2.2.1))) := by
  unfold goodAtom; rw [if_neg (by omega), if_neg (by omega), if_neg (by omega), if_neg (by omega), if_pos h]
theorem goodAtom6 {a : Int × Int × ByteArray × ByteArray × Unit} (h : a.1 = 6) : goodAtom a = (decide (a.2.2.1.size = 0 ∧ a.2.2.2.1.size = 0 ∧ 0 ≤ a.2.1 ∧ a.2.1 % 64 ≤ 32 ∧ a.2.1 / 64 < 4294967296) && decide ((a.2.1 / 64) % 2 ^ (32 - a.2.1 % 64).toNat = 0)) := by
  unfold goodAtom; rw [if_neg (by omega), if_neg (by omega), if_neg (by omega), if_neg (by omega), if_neg (by omega), if_pos h]
theorem goodAtom7 {a : Int × Int × ByteArray × ByteArray × Unit} (h : a.1 = 7) : goodAtom a = decide (a.2.2.1.size = 0 ∧ a.2.2.2.1.size = 0 ∧ -100000000000 ≤ a.2.1 ∧ a.2.1 ≤ 100000000000) := by
  unfold goodAtom; rw [if_neg (by omega), if_neg (by omega), if_neg (by omega), if_neg (by omega), if_neg (by omega), if_neg (by omega), if_pos h]
theorem goodAtom0 {a : Int × Int × ByteArray × ByteArray × Unit} (h : a.1 ≠ 1 ∧ a.1 ≠ 2 ∧ a.1 ≠ 3 ∧ a.1 ≠ 4 ∧ a.1 ≠ 5 ∧ a.1 ≠ 6 ∧ a.1 ≠ 7) : goodAtom a = false := by
  unfold goodAtom; rw [if_neg (by omega), if_neg (by omega), if_neg (by omega), if_neg (by omega), if_neg (by omega), if_neg (by omega), if_neg (by omega)]
theorem spec_GoodAtom_ev (a : Int × Int × ByteArray × ByteArray × Unit) (hn : -9223372036854775808 ≤ a.2.1) (hn' : a.2.1 < 9223372036854775808) (ht : a.2.2.1.size ≤ 140737488351232) (hy : a.2.2.2.1.size ≤ 140737488351232) : Ev (fun K _ => spec_GoodAtom.f K a) (goodAtom a) := by
  refine Ev.fn (fun k => spec_GoodAtom.f_eq k a) ?_
  simp only [size_nil]
  by_cases hE : a.2.2.1.size = 0 <;> by_cases hY : a.2.2.2.1.size = 0
  all_goals
    by_cases k1 : a.1 = 1
    · rw [goodAtom1 k1]; (repeat (first | exact Ev.some (by (first | rfl | exact decide_eq_decide.2 (by omega) | exact (decide_eq_false (by omega)).symm | exact (decide_eq_true (by omega)).symm)) | exact Ev.some (by rw [decide_eq_false (by omega)]; rfl) | refine Ev.yes (by omega) ?_ | refine Ev.no (by omega) ?_)) <;> exact Ev.ite (fun _ => Ev.some (by (first | rfl | exact decide_eq_decide.2 (by omega) | exact (decide_eq_false (by omega)).symm | exact (decide_eq_true (by omega)).symm))) fun _ => Ev.some (by (first | rfl | exact decide_eq_decide.2 (by omega) | exact (decide_eq_false (by omega)).symm | exact (decide_eq_true (by omega)).symm))
    by_cases k2 : a.1 = 2
    · rw [goodAtom2 k2]; (repeat (first | exact Ev.some (by (first | rfl | exact decide_eq_decide.2 (by omega) | exact (decide_eq_false (by omega)).symm | exact (decide_eq_true (by omega)).symm)) | exact Ev.some (by rw [decide_eq_false (by omega)]; rfl) | refine Ev.yes (by omega) ?_ | refine Ev.no (by omega) ?_))
    by_cases k5 : a.1 = 5
    · rw [goodAtom5 k5]; (repeat (first | exact Ev.some (by (first | rfl | exact decide_eq_decide.2 (by omega) | exact (decide_eq_false (by omega)).symm | exact (decide_eq_true (by omega)).symm)) | exact Ev.some (by rw [decide_eq_false (by omega)]; rfl) | refine Ev.yes (by omega) ?_ | refine Ev.no (by omega) ?_))
    by_cases k3 : a.1 = 3
    · rw [goodAtom3 k3]
      by_cases z : a.2.1 = 0 ∧ a.2.2.2.1.size = 0 ∧ a.2.2.1.size ≤ 200
      · first
        | (exfalso; omega)
        | (rw [decide_eq_true z, Bool.true_and]; (repeat (first | exact Ev.some (by (first | rfl | exact decide_eq_decide.2 (by omega) | exact (decide_eq_false (by omega)).symm | exact (decide_eq_true (by omega)).symm)) | exact Ev.some (by rw [decide_eq_false (by omega)]; rfl) | refine Ev.yes (by omega) ?_ | refine Ev.no (by omega) ?_)); exact Ev.tail (spec_l1Printed_ev _ ht))
      · rw [decide_eq_false z, Bool.false_and]; (repeat (first | exact Ev.some (by (first | rfl | exact decide_eq_decide.2 (by omega) | exact (decide_eq_false (by omega)).symm | exact (decide_eq_true (by omega)).symm)) | exact Ev.some (by rw [decide_eq_false (by omega)]; rfl) | refine Ev.yes (by omega) ?_ | refine Ev.no (by omega) ?_)) <;> exact Ev.ite (fun _ => Ev.no (by omega) (Ev.now _)) fun _ => Ev.now _
    by_cases k4 : a.1 = 4
    · rw [goodAtom4 k4]
      by_cases z : a.2.1 = 0
      · rw [decide_eq_true z, Bool.true_and]; (repeat (first | exact Ev.some (by (first | rfl | exact decide_eq_decide.2 (by omega) | exact (decide_eq_false (by omega)).symm | exact (decide_eq_true (by omega)).symm)) | exact Ev.some (by rw [decide_eq_false (by omega)]; rfl) | refine Ev.yes (by omega) ?_ | refine Ev.no (by omega) ?_))
        refine (spec_GoodName_ev _ hy).bind (Ev.ite (fun g => ?_) fun g => Ev.some (by rw [Bool.eq_false_iff.2 g]; rfl))
        rw [g, Bool.true_and]
        by_cases s : 1 ≤ a.2.2.1.size ∧ a.2.2.1.size ≤ 200
        · rw [decide_eq_true s, Bool.true_and]; (repeat (first | exact Ev.some (by (first | rfl | exact decide_eq_decide.2 (by omega) | exact (decide_eq_false (by omega)).symm | exact (decide_eq_true (by omega)).symm)) | exact Ev.some (by rw [decide_eq_false (by omega)]; rfl) | refine Ev.yes (by omega) ?_ | refine Ev.no (by omega) ?_)); try exact Ev.tail (spec_l1Printed_ev _ ht)
        · rw [decide_eq_false s, Bool.false_and]; (repeat (first | exact Ev.some (by (first | rfl | exact decide_eq_decide.2 (by omega) | exact (decide_eq_false (by omega)).symm | exact (decide_eq_true (by omega)).symm)) | exact Ev.some (by rw [decide_eq_false (by omega)]; rfl) | refine Ev.yes (by omega) ?_ | refine Ev.no (by omega) ?_)) <;> exact Ev.ite (fun _ => Ev.no (by omega) (Ev.now _)) fun _ => Ev.now _
      · rw [decide_eq_false z, Bool.false_and]; (repeat (first | exact Ev.some (by (first | rfl | exact decide_eq_decide.2 (by omega) | exact (decide_eq_false (by omega)).symm | exact (decide_eq_true (by omega)).symm)) | exact Ev.some (by rw [decide_eq_false (by omega)]; rfl) | refine Ev.yes (by omega) ?_ | refine Ev.no (by omega) ?_))
    by_cases k6 : a.1 = 6
    · rw [goodAtom6 k6]
      (repeat (first | exact Ev.some (by (first | rfl | exact decide_eq_decide.2 (by omega) | exact (decide_eq_false (by omega)).symm | exact (decide_eq_true (by omega)).symm)) | exact Ev.some (by rw [decide_eq_false (by omega)]; rfl) | refine Ev.yes (by omega) ?_ | refine Ev.no (by omega) ?_))
      all_goals
        refine Ev.ite (fun hz => Ev.some (by rw [decide_eq_false (by omega)]; rfl)) fun hz => (spec_l1Pow2_ev 32 (by omega) (by omega)).bind ?_
        rw [tdiv64 (by omega) (by omega), tmod64 (by omega), show wrap64 (2 ^ (32 : Int).toNat - 1) = 4294967295 from by kernel_rfl]
        refine Ev.ite (fun hf => Ev.some (by rw [decide_eq_false (by omega)]; rfl)) fun hf => Ev.ite (fun hl => Ev.some (by rw [decide_eq_false (by omega)]; rfl)) fun hl => ?_
        rw [decide_eq_true (by omega), Bool.true_and]
        refine (spec_l1Block_ev a (by omega) hn' (by omega)).bind ?_
        have h2 := two_small (32 - a.2.1 % 64) (by omega)
        refine Ev.no (show ¬ ((2 : Int) ^ (32 - a.2.1 % 64).toNat = 0) by omega) (Ev.some ?_)
        unfold remI
        rw [Int.tmod_eq_emod_of_nonneg (by omega)]
    by_cases k7 : a.1 = 7
    · rw [goodAtom7 k7]; (repeat (first | exact Ev.some (by (first | rfl | exact decide_eq_decide.2 (by omega) | exact (decide_eq_false (by omega)).symm | exact (decide_eq_true (by omega)).symm)) | exact Ev.some (by rw [decide_eq_false (by omega)]; rfl) | refine Ev.yes (by omega) ?_ | refine Ev.no (by omega) ?_)) <;> exact Ev.ite (fun _ => Ev.some (by (first | rfl | exact decide_eq_decide.2 (by omega) | exact (decide_eq_false (by omega)).symm | exact (decide_eq_true (by omega)).symm))) fun _ => Ev.some (by (first | rfl | exact decide_eq_decide.2 (by omega) | exact (decide_eq_false (by omega)).symm | exact (decide_eq_true (by omega)).symm))
    rw [goodAtom0 ⟨k1, k2, k3, k4, k5, k6, k7⟩]; (repeat (first | exact Ev.some (by (first | rfl | exact decide_eq_decide.2 (by omega) | exact (decide_eq_false (by omega)).symm | exact (decide_eq_true (by omega)).symm)) | exact Ev.some (by rw [decide_eq_false (by omega)]; rfl) | refine Ev.yes (by omega) ?_ | refine Ev.no (by omega) ?_))
theorem impl_GoodAtom_ev (a : Int × Int × ByteArray × ByteArray × Unit) (hn : -9223372036854775808 ≤ a.2.1) (hn' : a.2.1 < 9223372036854775808) (ht : a.2.2.1.size ≤ 140737488351232) (hy : a.2.2.2.1.size ≤ 140737488351232) : Ev (fun K _ => impl_GoodAtom.f K a) (goodAtom a) := by
  refine Ev.fn (fun k => impl_GoodAtom.f_eq k a) ?_
  simp only [size_nil]
  by_cases hE : a.2.2.1.size = 0 <;> by_cases hY : a.2.2.2.1.size = 0
  all_goals
    by_cases k1 : a.1 = 1
    · rw [goodAtom1 k1]; (repeat (first | exact Ev.some (by (first | rfl | exact decide_eq_decide.2 (by omega) | exact (decide_eq_false (by omega)).symm | exact (decide_eq_true (by omega)).symm)) | exact Ev.some (by rw [decide_eq_false (by omega)]; rfl) | refine Ev.yes (by omega) ?_ | refine Ev.no (by omega) ?_)) <;> exact Ev.ite (fun _ => Ev.some (by (first | rfl | exact decide_eq_decide.2 (by omega) | exact (decide_eq_false (by omega)).symm | exact (decide_eq_true (by omega)).symm))) fun _ => Ev.some (by (first | rfl | exact decide_eq_decide.2 (by omega) | exact (decide_eq_false (by omega)).symm | exact (decide_eq_true (by omega)).symm))
    by_cases k2 : a.1 = 2
    · rw [goodAtom2 k2]; (repeat (first | exact Ev.some (by (first | rfl | exact decide_eq_decide.2 (by omega) | exact (decide_eq_false (by omega)).symm | exact (decide_eq_true (by omega)).symm)) | exact Ev.some (by rw [decide_eq_false (by omega)]; rfl) | refine Ev.yes (by omega) ?_ | refine Ev.no (by omega) ?_))
    by_cases k5 : a.1 = 5
    · rw [goodAtom5 k5]; (repeat (first | exact Ev.some (by (first | rfl | exact decide_eq_decide.2 (by omega) | exact (decide_eq_false (by omega)).symm | exact (decide_eq_true (by omega)).symm)) | exact Ev.some (by rw [decide_eq_false (by omega)]; rfl) | refine Ev.yes (by omega) ?_ | refine Ev.no (by omega) ?_))
    by_cases k3 : a.1 = 3
    · rw [goodAtom3 k3]
      by_cases z : a.2.1 = 0 ∧ a.2.2.2.1.size = 0
      · rw [show decide (a.2.1 = 0 ∧ a.2.2.2.1.size = 0 ∧ a.2.2.1.size ≤ 200) = decide ((0 : Int) ≤ a.2.2.1.size ∧ (a.2.2.1.size : Int) ≤ 200) from decide_eq_decide.2 (by omega)]
        (repeat (first | exact Ev.some (by (first | rfl | exact decide_eq_decide.2 (by omega) | exact (decide_eq_false (by omega)).symm | exact (decide_eq_true (by omega)).symm)) | exact Ev.some (by rw [decide_eq_false (by omega)]; rfl) | refine Ev.yes (by omega) ?_ | refine Ev.no (by omega) ?_)) <;> first | exact Ev.tail (impl_yprinted_ev _ _ _ ht) | (exfalso; omega)
      · rw [show decide (a.2.1 = 0 ∧ a.2.2.2.1.size = 0 ∧ a.2.2.1.size ≤ 200) = false from decide_eq_false (by omega), Bool.false_and]; (repeat (first | exact Ev.some (by (first | rfl | exact decide_eq_decide.2 (by omega) | exact (decide_eq_false (by omega)).symm | exact (decide_eq_true (by omega)).symm)) | exact Ev.some (by rw [decide_eq_false (by omega)]; rfl) | refine Ev.yes (by omega) ?_ | refine Ev.no (by omega) ?_)) <;> exact Ev.ite (fun _ => Ev.no (by omega) (Ev.now _)) fun _ => Ev.now _
    by_cases k4 : a.1 = 4
    · rw [goodAtom4 k4]
      by_cases z : a.2.1 = 0
      · rw [decide_eq_true z, Bool.true_and]; (repeat (first | exact Ev.some (by (first | rfl | exact decide_eq_decide.2 (by omega) | exact (decide_eq_false (by omega)).symm | exact (decide_eq_true (by omega)).symm)) | exact Ev.some (by rw [decide_eq_false (by omega)]; rfl) | refine Ev.yes (by omega) ?_ | refine Ev.no (by omega) ?_))
        refine (impl_GoodName_ev _ hy).bind (Ev.ite (fun g => ?_) fun g => Ev.some (by rw [Bool.eq_false_iff.2 g]; rfl))
        rw [g, Bool.true_and, show decide (1 ≤ a.2.2.1.size ∧ a.2.2.1.size ≤ 200) = decide ((1 : Int) ≤ a.2.2.1.size ∧ (a.2.2.1.size : Int) ≤ 200) from decide_eq_decide.2 (by omega)]
        exact Ev.tail (impl_yprinted_ev _ _ _ ht)
      · rw [decide_eq_false z, Bool.false_and]; (repeat (first | exact Ev.some (by (first | rfl | exact decide_eq_decide.2 (by omega) | exact (decide_eq_false (by omega)).symm | exact (decide_eq_true (by omega)).symm)) | exact Ev.some (by rw [decide_eq_false (by omega)]; rfl) | refine Ev.yes (by omega) ?_ | refine Ev.no (by omega) ?_))
    by_cases k6 : a.1 = 6
    · rw [goodAtom6 k6]
      (repeat (first | exact Ev.some (by (first | rfl | exact decide_eq_decide.2 (by omega) | exact (decide_eq_false (by omega)).symm | exact (decide_eq_true (by omega)).symm)) | exact Ev.some (by rw [decide_eq_false (by omega)]; rfl) | refine Ev.yes (by omega) ?_ | refine Ev.no (by omega) ?_))
      all_goals
        refine Ev.ite (fun hz => Ev.some (by rw [decide_eq_false (by omega)]; rfl)) fun hz => ?_
        rw [tdiv64 (by omega) (by omega), tmod64 (by omega)]
        refine Ev.ite (fun hl => Ev.ite (fun hf => ?_) fun hf => Ev.some (by rw [decide_eq_false (by omega)]; rfl)) fun hl => Ev.some (by rw [decide_eq_false (by omega)]; rfl)
        rw [show decide (a.2.2.1.size = 0 ∧ a.2.2.2.1.size = 0 ∧ 0 ≤ a.2.1 ∧ a.2.1 % 64 ≤ 32 ∧ a.2.1 / 64 < 4294967296) = true from decide_eq_true (by omega), Bool.true_and, bits_left hl, shl_one _ (by omega) (by omega)]
        have h2 := two_small (32 - a.2.1 % 64) (by omega)
        refine Ev.no (by omega) (Ev.no (by omega) (Ev.some ?_))
        unfold remI
        rw [Int.tmod_eq_emod_of_nonneg (by omega)]
    by_cases k7 : a.1 = 7
    · rw [goodAtom7 k7]; (repeat (first | exact Ev.some (by (first | rfl | exact decide_eq_decide.2 (by omega) | exact (decide_eq_false (by omega)).symm | exact (decide_eq_true (by omega)).symm)) | exact Ev.some (by rw [decide_eq_false (by omega)]; rfl) | refine Ev.yes (by omega) ?_ | refine Ev.no (by omega) ?_)) <;> exact Ev.ite (fun _ => Ev.some (by (first | rfl | exact decide_eq_decide.2 (by omega) | exact (decide_eq_false (by omega)).symm | exact (decide_eq_true (by omega)).symm))) fun _ => Ev.some (by (first | rfl | exact decide_eq_decide.2 (by omega) | exact (decide_eq_false (by omega)).symm | exact (decide_eq_true (by omega)).symm))
    rw [goodAtom0 ⟨k1, k2, k3, k4, k5, k6, k7⟩]; (repeat (first | exact Ev.some (by (first | rfl | exact decide_eq_decide.2 (by omega) | exact (decide_eq_false (by omega)).symm | exact (decide_eq_true (by omega)).symm)) | exact Ev.some (by rw [decide_eq_false (by omega)]; rfl) | refine Ev.yes (by omega) ?_ | refine Ev.no (by omega) ?_))

abbrev spec_GoodAtom.v (a : Int × Int × ByteArray × ByteArray × Unit) : Bool := goodAtom a
abbrev impl_GoodAtom.v (a : Int × Int × ByteArray × ByteArray × Unit) : Bool := goodAtom a
theorem spec_GoodAtom.v_ev (a : T22) (f : fitSh S22 a) : EvF .bool (fun K _ => spec_GoodAtom.f K a) (spec_GoodAtom.v a) := by
  have w := i64_of f.2.1
  exact ⟨spec_GoodAtom_ev a w.1 (by omega) f.2.2.1 f.2.2.2.1, trivial⟩
theorem impl_GoodAtom.v_ev (a : T22) (f : fitSh S22 a) : EvF .bool (fun K _ => impl_GoodAtom.f K a) (impl_GoodAtom.v a) := by
  have w := i64_of f.2.1
  exact ⟨impl_GoodAtom_ev a w.1 (by omega) f.2.2.1 f.2.2.2.1, trivial⟩

def spec_l1CmpNum.v (a0 : Int) (a1 : Int) : Int :=
  (if (a0 : Int) < a1 then (-1) else (if (a0 : Int) > a1 then 1 else 0))
theorem spec_l1CmpNum.v_ev (a0 : Int) (a1 : Int) (f_a0 : fitSh (.int .i64) a0) (f_a1 : fitSh (.int .i64) a1) : EvF (.int .i64) (fun K _ => spec_l1CmpNum.f K a0 a1) (spec_l1CmpNum.v a0 a1) := by
  unfold spec_l1CmpNum.v
  exact EvF.fn (fun k => spec_l1CmpNum.f_eq k a0 a1) (EvF.ite (fun h0 => (EvF.now ((fit_wfb rfl)))) fun h0 => (EvF.ite (fun h1 => (EvF.now ((fit_wfb rfl)))) fun h1 => (EvF.now ((fit_wfb rfl)))))
def spec_l1Cmp.v (a0 : T22) (a1 : T22) : Int :=
  (let t0 := spec_l1CmpNum.v a0.1 a1.1; (if (t0 : Int) = 0 then (let t1 := spec_l1CmpNum.v a0.2.1 a1.2.1; (if (t1 : Int) = 0 then (let t2 := spec_l1CmpText.v a0.2.2.2.1 a1.2.2.2.1; (if (t2 : Int) = 0 then (spec_l1CmpText.v a0.2.2.1 a1.2.2.1) else t2)) else t1)) else t0))
theorem spec_l1Cmp.v_ev (a0 : T22) (a1 : T22) (f_a0 : fitSh S22 a0) (f_a1 : fitSh S22 a1) : EvF (.int .i64) (fun K _ => spec_l1Cmp.f K a0 a1) (spec_l1Cmp.v a0 a1) := by
  unfold spec_l1Cmp.v
  exact EvF.fn (fun k => spec_l1Cmp.f_eq k a0 a1) (EvF.bind (spec_l1CmpNum.v_ev _ _ (f_a0.1) (f_a1.1)) fun f_t0 => (EvF.ite (fun h0 => (EvF.bind (spec_l1CmpNum.v_ev _ _ (f_a0.2.1) (f_a1.2.1)) fun f_t1 => (EvF.ite (fun h1 => (EvF.bind (spec_l1CmpText.v_ev _ _ (f_a0.2.2.2.1) (f_a1.2.2.2.1)) fun f_t2 => (EvF.ite (fun h2 => (EvF.bind (spec_l1CmpText.v_ev _ _ (f_a0.2.2.1) (f_a1.2.2.1)) fun f_t3 => (EvF.now (f_t3)))) fun h2 => (EvF.now (f_t2))))) fun h1 => (EvF.now (f_t1))))) fun h0 => (EvF.now (f_t0))))

def cmp_isNaN_int.v (a0 : Int) : Bool :=
  (!(decide ((a0 : Int) = a0)))
theorem cmp_isNaN_int.v_ev (a0 : Int) (f_a0 : fitSh (.int .i64) a0) : EvF .bool (fun K _ => cmp_isNaN_int.f K a0) (cmp_isNaN_int.v a0) := by
  unfold cmp_isNaN_int.v
  exact EvF.fn (fun k => cmp_isNaN_int.f_eq k a0) (EvF.now (fit_bool _))
def cmp_Compare_int.v (a0 : Int) (a1 : Int) : Int :=
  (let t0 := cmp_isNaN_int.v a0; (let t1 := cmp_isNaN_int.v a1; (if t0 = true then (if t1 = true then 0 else (-1)) else (if t1 = true then 1 else (if (a0 : Int) < a1 then (-1) else (if (a0 : Int) > a1 then 1 else 0))))))
theorem cmp_Compare_int.v_ev (a0 : Int) (a1 : Int) (f_a0 : fitSh (.int .i64) a0) (f_a1 : fitSh (.int .i64) a1) : EvF (.int .i64) (fun K _ => cmp_Compare_int.f K a0 a1) (cmp_Compare_int.v a0 a1) := by
  unfold cmp_Compare_int.v
  exact EvF.fn (fun k => cmp_Compare_int.f_eq k a0 a1) (EvF.bind (cmp_isNaN_int.v_ev _ (f_a0)) fun f_t0 => (EvF.bind (cmp_isNaN_int.v_ev _ (f_a1)) fun f_t1 => (EvF.ite (fun h0 => (EvF.ite (fun h1 => (EvF.now ((fit_wfb rfl)))) fun h1 => (EvF.now ((fit_wfb rfl))))) fun h0 => (EvF.ite (fun h1 => (EvF.now ((fit_wfb rfl)))) fun h1 => (EvF.ite (fun h2 => (EvF.now ((fit_wfb rfl)))) fun h2 => (EvF.ite (fun h3 => (EvF.now ((fit_wfb rfl)))) fun h3 => (EvF.now ((fit_wfb rfl)))))))))
def cmp_isNaN_string.v (a0 : ByteArray) : Bool :=
  (!(decide (a0.toList = a0.toList)))
theorem cmp_isNaN_string.v_ev (a0 : ByteArray) (f_a0 : fitSh .str a0) : EvF .bool (fun K _ => cmp_isNaN_string.f K a0) (cmp_isNaN_string.v a0) := by
  unfold cmp_isNaN_string.v
  exact EvF.fn (fun k => cmp_isNaN_string.f_eq k a0) (EvF.now (fit_bool _))
def cmp_Compare_string.v (a0 : ByteArray) (a1 : ByteArray) : Int :=
  (let t0 := cmp_isNaN_string.v a0; (let t1 := cmp_isNaN_string.v a1; (if t0 = true then (if t1 = true then 0 else (-1)) else (if t1 = true then 1 else (if (Op.bytesLess a0.toList a1.toList) = true then (-1) else (if (Op.bytesLess a0.toList a1.toList || decide (a0.toList = a1.toList)) = true then 0 else 1))))))
theorem cmp_Compare_string.v_ev (a0 : ByteArray) (a1 : ByteArray) (f_a0 : fitSh .str a0) (f_a1 : fitSh .str a1) : EvF (.int .i64) (fun K _ => cmp_Compare_string.f K a0 a1) (cmp_Compare_string.v a0 a1) := by
  unfold cmp_Compare_string.v
  exact EvF.fn (fun k => cmp_Compare_string.f_eq k a0 a1) (EvF.bind (cmp_isNaN_string.v_ev _ (f_a0)) fun f_t0 => (EvF.bind (cmp_isNaN_string.v_ev _ (f_a1)) fun f_t1 => (EvF.ite (fun h0 => (EvF.ite (fun h1 => (EvF.now ((fit_wfb rfl)))) fun h1 => (EvF.now ((fit_wfb rfl))))) fun h0 => (EvF.ite (fun h1 => (EvF.now ((fit_wfb rfl)))) fun h1 => (EvF.ite (fun h2 => (EvF.now ((fit_wfb rfl)))) fun h2 => (EvF.ite (fun h3 => (EvF.now ((fit_wfb rfl)))) fun h3 => (EvF.now ((fit_wfb rfl)))))))))
def cmp_Or_int.l8.v (x3 : Int)  : List Int → Nat → Int
  | [], i => x3
  | e :: rest, i => (if (e : Int) = x3 then (cmp_Or_int.l8.v x3 rest (i + 1)) else e)
theorem cmp_Or_int.l8.v_ev (x3 : Int) (x6 : (List Int)) (f_x3 : fitSh (.int .i64) x3) (f_x6 : fitSh (.list (.int .i64)) x6)  : ∀ (rest : List Int) (i : Nat)  , x6.drop i = rest → EvF (.int .i64) (fun K j => cmp_Or_int.l8 K j x3 x6 (x6.length : Int) (i : Int)) (cmp_Or_int.l8.v x3 rest i ) := by
  have bX : x6.length ≤ 140737488351232 := f_x6.1
  intro rest
  induction rest with
  | nil =>
    intro i hd
    have hz := drop_none hd
    unfold cmp_Or_int.l8.v
    exact EvF.lp (fun K j => cmp_Or_int.l8_eq K j x3 x6 (x6.length : Int) (i : Int)) (EvF.no (by omega) (EvF.now (f_x3)))
  | cons e rest ih =>
    intro i hd
    obtain ⟨hlt, hd2, hx⟩ := drop_more hd
    have f_e : fitSh (.int .i64) e := hx (dflt (.int .i64)) ▸ fit_rd f_x6 _
    have f_i : fitSh (.int .i64) (i : Int) := fit_len (by omega)
    unfold cmp_Or_int.l8.v
    refine EvF.lp (fun K j => cmp_Or_int.l8_eq K j x3 x6 (x6.length : Int) (i : Int)) (EvF.yes (by omega) ?_)
    try rw [hx]
    try rw [wrap_nat (i := i) (by omega)]
    exact (EvF.yes (by first | omega | (simp only [wrap64] at *; omega)) (EvF.ite (fun h0 => (ih (i + 1)   hd2)) fun h0 => (EvF.now (f_e))))
def cmp_Or_int.v (a0 : (List Int)) : Int :=
  (cmp_Or_int.l8.v 0 a0 0)
theorem cmp_Or_int.v_ev (a0 : (List Int)) (f_a0 : fitSh (.list (.int .i64)) a0) : EvF (.int .i64) (fun K _ => cmp_Or_int.f K a0) (cmp_Or_int.v a0) := by
  unfold cmp_Or_int.v
  exact EvF.fn (fun k => cmp_Or_int.f_eq k a0) (EvF.diag (cmp_Or_int.l8.v_ev 0 a0 ((fit_wfb rfl)) (f_a0)  _ 0    rfl))
def impl_ycmpAtom.v (a0 : T22) (a1 : T22) : Int :=
  (let t0 := cmp_Compare_int.v a0.1 a1.1; (let t1 := cmp_Compare_int.v a0.2.1 a1.2.1; (let t2 := cmp_Compare_string.v a0.2.2.2.1 a1.2.2.2.1; (let t3 := cmp_Compare_string.v a0.2.2.1 a1.2.2.1; (cmp_Or_int.v [t0, t1, t2, t3])))))
theorem impl_ycmpAtom.v_ev (a0 : T22) (a1 : T22) (f_a0 : fitSh S22 a0) (f_a1 : fitSh S22 a1) : EvF (.int .i64) (fun K _ => impl_ycmpAtom.f K a0 a1) (impl_ycmpAtom.v a0 a1) := by
  unfold impl_ycmpAtom.v
  exact EvF.fn (fun k => impl_ycmpAtom.f_eq k a0 a1) (EvF.bind (cmp_Compare_int.v_ev _ _ (f_a0.1) (f_a1.1)) fun f_t0 => (EvF.bind (cmp_Compare_int.v_ev _ _ (f_a0.2.1) (f_a1.2.1)) fun f_t1 => (EvF.bind (cmp_Compare_string.v_ev _ _ (f_a0.2.2.2.1) (f_a1.2.2.2.1)) fun f_t2 => (EvF.bind (cmp_Compare_string.v_ev _ _ (f_a0.2.2.1) (f_a1.2.2.1)) fun f_t3 => (EvF.bind (cmp_Or_int.v_ev _ (fit_lst (Nat.le_of_ble_eq_true rfl) (fit_cons (f_t0) (fit_cons (f_t1) (fit_cons (f_t2) (fit_cons (f_t3) (fun _ hx => by cases hx))))))) fun f_t4 => (EvF.now (f_t4)))))))

theorem compare_int (a b : Int) : cmp_Compare_int.v a b = spec_l1CmpNum.v a b := by
  unfold cmp_Compare_int.v spec_l1CmpNum.v cmp_isNaN_int.v; simp
theorem compare_string (s t : ByteArray) : cmp_Compare_string.v s t = cmpT s t := by
  unfold cmp_Compare_string.v cmp_isNaN_string.v
  simp only [decide_true, Bool.not_true, Bool.false_eq_true, if_false]
  by_cases h : Op.bytesLess s.toList t.toList = true
  · rw [if_pos h, (bytesLess_iff s t).1 h]
  · have h1 : cmpT s t ≠ -1 := fun q => h ((bytesLess_iff s t).2 q)
    rw [if_neg h]
    by_cases e : s.toList = t.toList
    · have e2 : s = t := bytesOf_inj (by
        have e1 : s.data.toList = t.data.toList := by rw [← ByteArray.toList_eq, ← ByteArray.toList_eq, e]
        unfold bytesOf; rw [e1])
      rw [if_pos (by simp [e]), cmpT_zero.2 e2]
    · have h2 : cmpT s t ≠ 0 := fun q => e (by rw [cmpT_zero.1 q])
      rw [if_neg (by simp [h, e])]
      rcases cmpT_range s t with q | q | q <;> omega
theorem or4 (a b c d : Int) : cmp_Or_int.v [a, b, c, d] = if a = 0 then (if b = 0 then (if c = 0 then d else c) else b) else a := by
  unfold cmp_Or_int.v
  simp only [cmp_Or_int.l8.v]
  by_cases h : d = 0
  · rw [if_pos h, h]
  · rw [if_neg h]
theorem cmpAtom_same (a b : T22) : impl_ycmpAtom.v a b = spec_l1Cmp.v a b := by
  unfold impl_ycmpAtom.v spec_l1Cmp.v
  simp only [compare_int, compare_string, or4]

def spec_GoodValue.l70.v (x86 : (List ByteArray))  : List ByteArray → Nat → Bool
  | [], i => true
  | e :: rest, i => (let t0 := spec_GoodName.v e; (if t0 = true then (if ((i : Int) : Int) > 0 then (let t1 := spec_l1CmpText.v (rd (⟨#[]⟩ : ByteArray) x86 (wrap64 ((i : Int) - 1))) e; (if (t1 : Int) ≥ 0 then false else (spec_GoodValue.l70.v x86 rest (i + 1)))) else (spec_GoodValue.l70.v x86 rest (i + 1))) else false))
theorem spec_GoodValue.l70.v_ev (x86 : (List ByteArray)) (y0_0 : Int) (y0_1 : Int) (y0_2 : Int) (y0_3 : ByteArray) (y0_4 : ByteArray) (y0_5 : (List T22)) (f_x86 : fitSh (.list .str) x86) (f_y0_0 : fitSh (.int .i64) y0_0) (f_y0_1 : fitSh (.int .i64) y0_1) (f_y0_2 : fitSh (.int .i64) y0_2) (f_y0_3 : fitSh .str y0_3) (f_y0_4 : fitSh .str y0_4) (f_y0_5 : fitSh (.list S22) y0_5)  : ∀ (rest : List ByteArray) (i : Nat)  , x86.drop i = rest → EvF .bool (fun K j => spec_GoodValue.l70 K j x86 (x86.length : Int) (i : Int) y0_0 y0_1 y0_2 y0_3 y0_4 y0_5 x86) (spec_GoodValue.l70.v x86 rest i ) := by
  have bX : x86.length ≤ 140737488351232 := f_x86.1
  intro rest
  induction rest with
  | nil =>
    intro i hd
    have hz := drop_none hd
    unfold spec_GoodValue.l70.v
    exact EvF.lp (fun K j => spec_GoodValue.l70_eq K j x86 (x86.length : Int) (i : Int) y0_0 y0_1 y0_2 y0_3 y0_4 y0_5 x86) (EvF.no (by omega) (EvF.now (fit_bool _)))
  | cons e rest ih =>
    intro i hd
    obtain ⟨hlt, hd2, hx⟩ := drop_more hd
    have f_e : fitSh .str e := hx (dflt .str) ▸ fit_rd f_x86 _
    have f_i : fitSh (.int .i64) (i : Int) := fit_len (by omega)
    unfold spec_GoodValue.l70.v
    refine EvF.lp (fun K j => spec_GoodValue.l70_eq K j x86 (x86.length : Int) (i : Int) y0_0 y0_1 y0_2 y0_3 y0_4 y0_5 x86) (EvF.yes (by omega) ?_)
    try rw [hx]
    try rw [wrap_nat (i := i) (by omega)]
    exact (EvF.yes (by first | omega | (simp only [wrap64] at *; omega)) (EvF.bind (spec_GoodName.v_ev _ (f_e)) fun f_t0 => (EvF.ite (fun h0 => (EvF.ite (fun h1 => (EvF.yes (by first | omega | (simp only [wrap64] at *; omega)) (EvF.bind (spec_l1CmpText.v_ev _ _ ((fit_rd (f_x86) _)) (f_e)) fun f_t1 => (EvF.ite (fun h2 => (EvF.now (fit_bool _))) fun h2 => (ih (i + 1)   hd2))))) fun h1 => (ih (i + 1)   hd2))) fun h0 => (EvF.now (fit_bool _)))))
def spec_GoodValue.l31.v (x40 : (List T22)) (y0_0 : Int) (y0_6 : (List ByteArray))  : List T22 → Nat → Bool
  | [], i => (if (y0_0 : Int) = 2 then (decide (((y0_6.length : Int) : Int) = 0)) else (if ((y0_6.length : Int) : Int) = (x40.length : Int) then (spec_GoodValue.l70.v y0_6 y0_6 0) else false))
  | e :: rest, i => (let t0 := spec_GoodAtom.v e; (if t0 = true then (if (y0_0 : Int) = 2 then (if ((i : Int) : Int) > 0 then (let t1 := spec_l1Cmp.v (rd Z22 x40 (wrap64 ((i : Int) - 1))) e; (if (t1 : Int) ≥ 0 then false else (spec_GoodValue.l31.v x40 y0_0 y0_6 rest (i + 1)))) else (spec_GoodValue.l31.v x40 y0_0 y0_6 rest (i + 1))) else (spec_GoodValue.l31.v x40 y0_0 y0_6 rest (i + 1))) else false))
theorem spec_GoodValue.l31.v_ev (x40 : (List T22)) (y0_0 : Int) (y0_1 : Int) (y0_2 : Int) (y0_3 : ByteArray) (y0_4 : ByteArray) (y0_6 : (List ByteArray)) (f_x40 : fitSh (.list S22) x40) (f_y0_0 : fitSh (.int .i64) y0_0) (f_y0_1 : fitSh (.int .i64) y0_1) (f_y0_2 : fitSh (.int .i64) y0_2) (f_y0_3 : fitSh .str y0_3) (f_y0_4 : fitSh .str y0_4) (f_y0_6 : fitSh (.list .str) y0_6)  : ∀ (rest : List T22) (i : Nat)  , x40.drop i = rest → EvF .bool (fun K j => spec_GoodValue.l31 K j x40 (x40.length : Int) (i : Int) y0_0 y0_1 y0_2 y0_3 y0_4 x40 y0_6) (spec_GoodValue.l31.v x40 y0_0 y0_6 rest i ) := by
  have bX : x40.length ≤ 140737488351232 := f_x40.1
  intro rest
  induction rest with
  | nil =>
    intro i hd
    have hz := drop_none hd
    unfold spec_GoodValue.l31.v
    exact EvF.lp (fun K j => spec_GoodValue.l31_eq K j x40 (x40.length : Int) (i : Int) y0_0 y0_1 y0_2 y0_3 y0_4 x40 y0_6) (EvF.no (by omega) (EvF.ite (fun h0 => (EvF.now (fit_bool _))) fun h0 => (EvF.ite (fun h1 => (spec_GoodValue.l70.v_ev y0_6 y0_0 y0_1 y0_2 y0_3 y0_4 x40 (f_y0_6) (f_y0_0) (f_y0_1) (f_y0_2) (f_y0_3) (f_y0_4) (f_x40)  _ 0    rfl)) fun h1 => (EvF.now (fit_bool _)))))
  | cons e rest ih =>
    intro i hd
    obtain ⟨hlt, hd2, hx⟩ := drop_more hd
    have f_e : fitSh S22 e := hx (dflt S22) ▸ fit_rd f_x40 _
    have f_i : fitSh (.int .i64) (i : Int) := fit_len (by omega)
    unfold spec_GoodValue.l31.v
    refine EvF.lp (fun K j => spec_GoodValue.l31_eq K j x40 (x40.length : Int) (i : Int) y0_0 y0_1 y0_2 y0_3 y0_4 x40 y0_6) (EvF.yes (by omega) ?_)
    try rw [hx]
    try rw [wrap_nat (i := i) (by omega)]
    exact (EvF.yes (by first | omega | (simp only [wrap64] at *; omega)) (EvF.bind (spec_GoodAtom.v_ev _ (f_e)) fun f_t0 => (EvF.ite (fun h0 => (EvF.ite (fun h1 => (EvF.ite (fun h2 => (EvF.yes (by first | omega | (simp only [wrap64] at *; omega)) (EvF.bind (spec_l1Cmp.v_ev _ _ ((fit_rd (f_x40) _)) (f_e)) fun f_t1 => (EvF.ite (fun h3 => (EvF.now (fit_bool _))) fun h3 => (ih (i + 1)   hd2))))) fun h2 => (ih (i + 1)   hd2))) fun h1 => (ih (i + 1)   hd2))) fun h0 => (EvF.now (fit_bool _)))))
def spec_GoodValue.v (a0 : T29) : Bool :=
  (if (a0.1 : Int) = 1 then (let t0 := spec_GoodAtom.v a0.2.1; (if t0 = true then (if ((a0.2.2.1.length : Int) : Int) = 0 then (decide (((a0.2.2.2.1.length : Int) : Int) = 0)) else false) else false)) else (if (a0.1 : Int) = 2 then (if (a0.1 : Int) = 2 then (if (eqD S22 (a0.2.1 : T22) ((0, (0, ((⟨#[]⟩ : ByteArray), ((⟨#[]⟩ : ByteArray), ())))) : T22)) = true then (if ((a0.2.2.1.length : Int) : Int) > 50 then false else (spec_GoodValue.l31.v a0.2.2.1 a0.1 a0.2.2.2.1 a0.2.2.1 0)) else false) else false) else (if (a0.1 : Int) = 3 then (if (eqD S22 (a0.2.1 : T22) ((0, (0, ((⟨#[]⟩ : ByteArray), ((⟨#[]⟩ : ByteArray), ())))) : T22)) = true then (if ((a0.2.2.1.length : Int) : Int) > 50 then false else (spec_GoodValue.l31.v a0.2.2.1 a0.1 a0.2.2.2.1 a0.2.2.1 0)) else false) else false)))
theorem spec_GoodValue.v_ev (a0 : T29) (f_a0 : fitSh S29 a0) : EvF .bool (fun K _ => spec_GoodValue.f K a0) (spec_GoodValue.v a0) := by
  unfold spec_GoodValue.v
  exact EvF.fn (fun k => spec_GoodValue.f_eq k a0) (EvF.ite (fun h0 => (EvF.bind (spec_GoodAtom.v_ev _ (f_a0.2.1)) fun f_t0 => (EvF.ite (fun h1 => (EvF.ite (fun h2 => (EvF.now (fit_bool _))) fun h2 => (EvF.now (fit_bool _)))) fun h1 => (EvF.now (fit_bool _))))) fun h0 => (EvF.ite (fun h1 => (EvF.ite (fun h2 => (EvF.ite (fun h3 => (EvF.ite (fun h4 => (EvF.now (fit_bool _))) fun h4 => (EvF.diag (spec_GoodValue.l31.v_ev a0.2.2.1 a0.1 a0.2.1.1 a0.2.1.2.1 a0.2.1.2.2.1 a0.2.1.2.2.2.1 a0.2.2.2.1 (f_a0.2.2.1) (f_a0.1) (f_a0.2.1.1) (f_a0.2.1.2.1) (f_a0.2.1.2.2.1) (f_a0.2.1.2.2.2.1) (f_a0.2.2.2.1)  _ 0    rfl)))) fun h3 => (EvF.now (fit_bool _)))) fun h2 => (EvF.now (fit_bool _)))) fun h1 => (EvF.ite (fun h2 => (EvF.ite (fun h3 => (EvF.ite (fun h4 => (EvF.now (fit_bool _))) fun h4 => (EvF.diag (spec_GoodValue.l31.v_ev a0.2.2.1 a0.1 a0.2.1.1 a0.2.1.2.1 a0.2.1.2.2.1 a0.2.1.2.2.2.1 a0.2.2.2.1 (f_a0.2.2.1) (f_a0.1) (f_a0.2.1.1) (f_a0.2.1.2.1) (f_a0.2.1.2.2.1) (f_a0.2.1.2.2.2.1) (f_a0.2.2.2.1)  _ 0    rfl)))) fun h3 => (EvF.now (fit_bool _)))) fun h2 => (EvF.now (fit_bool _)))))

def impl_yzeroAtom.v (a0 : T22) : Bool :=
  (eqD S22 (a0 : T22) ((0, (0, ((⟨#[]⟩ : ByteArray), ((⟨#[]⟩ : ByteArray), ())))) : T22))
theorem impl_yzeroAtom.v_ev (a0 : T22) (f_a0 : fitSh S22 a0) : EvF .bool (fun K _ => impl_yzeroAtom.f K a0) (impl_yzeroAtom.v a0) := by
  unfold impl_yzeroAtom.v
  exact EvF.fn (fun k => impl_yzeroAtom.f_eq k a0) (EvF.now (fit_bool _))
def impl_yrisingAtoms.l6.v (x5 : (List T22))  : List T22 → Nat → Bool
  | [], i => true
  | e :: rest, i => (let t0 := impl_GoodAtom.v e; (if t0 = true then (if ((i : Int) : Int) > 0 then (let t1 := impl_ycmpAtom.v (rd Z22 x5 (wrap64 ((i : Int) - 1))) e; (if (t1 : Int) ≥ 0 then false else (impl_yrisingAtoms.l6.v x5 rest (i + 1)))) else (impl_yrisingAtoms.l6.v x5 rest (i + 1))) else false))
theorem impl_yrisingAtoms.l6.v_ev (x5 : (List T22)) (f_x5 : fitSh (.list S22) x5)  : ∀ (rest : List T22) (i : Nat)  , x5.drop i = rest → EvF .bool (fun K j => impl_yrisingAtoms.l6 K j x5 x5 (x5.length : Int) (i : Int)) (impl_yrisingAtoms.l6.v x5 rest i ) := by
  have bX : x5.length ≤ 140737488351232 := f_x5.1
  intro rest
  induction rest with
  | nil =>
    intro i hd
    have hz := drop_none hd
    unfold impl_yrisingAtoms.l6.v
    exact EvF.lp (fun K j => impl_yrisingAtoms.l6_eq K j x5 x5 (x5.length : Int) (i : Int)) (EvF.no (by omega) (EvF.now (fit_bool _)))
  | cons e rest ih =>
    intro i hd
    obtain ⟨hlt, hd2, hx⟩ := drop_more hd
    have f_e : fitSh S22 e := hx (dflt S22) ▸ fit_rd f_x5 _
    have f_i : fitSh (.int .i64) (i : Int) := fit_len (by omega)
    unfold impl_yrisingAtoms.l6.v
    refine EvF.lp (fun K j => impl_yrisingAtoms.l6_eq K j x5 x5 (x5.length : Int) (i : Int)) (EvF.yes (by omega) ?_)
    try rw [hx]
    try rw [wrap_nat (i := i) (by omega)]
    exact (EvF.yes (by first | omega | (simp only [wrap64] at *; omega)) (EvF.bind (impl_GoodAtom.v_ev _ (f_e)) fun f_t0 => (EvF.ite (fun h0 => (EvF.ite (fun h1 => (EvF.yes (by first | omega | (simp only [wrap64] at *; omega)) (EvF.bind (impl_ycmpAtom.v_ev _ _ ((fit_rd (f_x5) _)) (f_e)) fun f_t1 => (EvF.ite (fun h2 => (EvF.now (fit_bool _))) fun h2 => (ih (i + 1)   hd2))))) fun h1 => (ih (i + 1)   hd2))) fun h0 => (EvF.now (fit_bool _)))))
def impl_yrisingAtoms.v (a0 : (List T22)) : Bool :=
  (impl_yrisingAtoms.l6.v a0 a0 0)
theorem impl_yrisingAtoms.v_ev (a0 : (List T22)) (f_a0 : fitSh (.list S22) a0) : EvF .bool (fun K _ => impl_yrisingAtoms.f K a0) (impl_yrisingAtoms.v a0) := by
  unfold impl_yrisingAtoms.v
  exact EvF.fn (fun k => impl_yrisingAtoms.f_eq k a0) (EvF.diag (impl_yrisingAtoms.l6.v_ev a0 (f_a0)  _ 0    rfl))
def impl_yallNames_1.v (a0 : ByteArray) : Bool :=
  (let t0 := impl_GoodName.v a0; (!t0))
theorem impl_yallNames_1.v_ev (a0 : ByteArray) (f_a0 : fitSh .str a0) : EvF .bool (fun K _ => impl_yallNames_1.f K a0) (impl_yallNames_1.v a0) := by
  unfold impl_yallNames_1.v
  exact EvF.fn (fun k => impl_yallNames_1.f_eq k a0) (EvF.bind (impl_GoodName.v_ev _ (f_a0)) fun f_t0 => (EvF.now (fit_bool _)))
def slices_IndexFunc_string_string.l6.v   : List ByteArray → Nat → Int
  | [], i => (-1)
  | e :: rest, i => (let t0 := impl_yallNames_1.v e; (if t0 = true then (i : Int) else (slices_IndexFunc_string_string.l6.v rest (i + 1))))
theorem slices_IndexFunc_string_string.l6.v_ev (x0 : (List ByteArray)) (f_x0 : fitSh (.list .str) x0)  : ∀ (rest : List ByteArray) (i : Nat)  , x0.drop i = rest → EvF (.int .i64) (fun K j => slices_IndexFunc_string_string.l6 K j x0 (x0.length : Int) (i : Int)) (slices_IndexFunc_string_string.l6.v  rest i ) := by
  have bX : x0.length ≤ 140737488351232 := f_x0.1
  intro rest
  induction rest with
  | nil =>
    intro i hd
    have hz := drop_none hd
    unfold slices_IndexFunc_string_string.l6.v
    exact EvF.lp (fun K j => slices_IndexFunc_string_string.l6_eq K j x0 (x0.length : Int) (i : Int)) (EvF.no (by omega) (EvF.now ((fit_wfb rfl))))
  | cons e rest ih =>
    intro i hd
    obtain ⟨hlt, hd2, hx⟩ := drop_more hd
    have f_e : fitSh .str e := hx (dflt .str) ▸ fit_rd f_x0 _
    have f_i : fitSh (.int .i64) (i : Int) := fit_len (by omega)
    unfold slices_IndexFunc_string_string.l6.v
    refine EvF.lp (fun K j => slices_IndexFunc_string_string.l6_eq K j x0 (x0.length : Int) (i : Int)) (EvF.yes (by omega) ?_)
    try rw [hx]
    try rw [wrap_nat (i := i) (by omega)]
    exact (EvF.yes (by first | omega | (simp only [wrap64] at *; omega)) (EvF.bind (impl_yallNames_1.v_ev _ (f_e)) fun f_t0 => (EvF.ite (fun h0 => (EvF.now (f_i))) fun h0 => (ih (i + 1)   hd2))))
def slices_IndexFunc_string_string.v (a0 : (List ByteArray)) : Int :=
  (slices_IndexFunc_string_string.l6.v a0 0)
theorem slices_IndexFunc_string_string.v_ev (a0 : (List ByteArray)) (f_a0 : fitSh (.list .str) a0) : EvF (.int .i64) (fun K _ => slices_IndexFunc_string_string.f K a0) (slices_IndexFunc_string_string.v a0) := by
  unfold slices_IndexFunc_string_string.v
  exact EvF.fn (fun k => slices_IndexFunc_string_string.f_eq k a0) (EvF.diag (slices_IndexFunc_string_string.l6.v_ev a0 (f_a0)  _ 0    rfl))
def slices_ContainsFunc_string_string.v (a0 : (List ByteArray)) : Bool :=
  (let t0 := slices_IndexFunc_string_string.v a0; (decide ((t0 : Int) ≥ 0)))
theorem slices_ContainsFunc_string_string.v_ev (a0 : (List ByteArray)) (f_a0 : fitSh (.list .str) a0) : EvF .bool (fun K _ => slices_ContainsFunc_string_string.f K a0) (slices_ContainsFunc_string_string.v a0) := by
  unfold slices_ContainsFunc_string_string.v
  exact EvF.fn (fun k => slices_ContainsFunc_string_string.f_eq k a0) (EvF.bind (slices_IndexFunc_string_string.v_ev _ (f_a0)) fun f_t0 => (EvF.now (fit_bool _)))
def impl_yallNames.v (a0 : (List ByteArray)) : Bool :=
  (let t0 := slices_ContainsFunc_string_string.v a0; (!t0))
theorem impl_yallNames.v_ev (a0 : (List ByteArray)) (f_a0 : fitSh (.list .str) a0) : EvF .bool (fun K _ => impl_yallNames.f K a0) (impl_yallNames.v a0) := by
  unfold impl_yallNames.v
  exact EvF.fn (fun k => impl_yallNames.f_eq k a0) (EvF.bind (slices_ContainsFunc_string_string.v_ev _ (f_a0)) fun f_t0 => (EvF.now (fit_bool _)))
def impl_yrising.l6.v (x5 : (List ByteArray))  : List ByteArray → Nat → Bool
  | [], i => true
  | e :: rest, i => (if ((i : Int) : Int) > 0 then (if (Op.bytesLess (rd (⟨#[]⟩ : ByteArray) x5 (wrap64 ((i : Int) - 1))).toList e.toList) = true then (impl_yrising.l6.v x5 rest (i + 1)) else false) else (impl_yrising.l6.v x5 rest (i + 1)))
theorem impl_yrising.l6.v_ev (x5 : (List ByteArray)) (f_x5 : fitSh (.list .str) x5)  : ∀ (rest : List ByteArray) (i : Nat)  , x5.drop i = rest → EvF .bool (fun K j => impl_yrising.l6 K j x5 x5 (x5.length : Int) (i : Int)) (impl_yrising.l6.v x5 rest i ) := by
  have bX : x5.length ≤ 140737488351232 := f_x5.1
  intro rest
  induction rest with
  | nil =>
    intro i hd
    have hz := drop_none hd
    unfold impl_yrising.l6.v
    exact EvF.lp (fun K j => impl_yrising.l6_eq K j x5 x5 (x5.length : Int) (i : Int)) (EvF.no (by omega) (EvF.now (fit_bool _)))
  | cons e rest ih =>
    intro i hd
    obtain ⟨hlt, hd2, hx⟩ := drop_more hd
    have f_e : fitSh .str e := hx (dflt .str) ▸ fit_rd f_x5 _
    have f_i : fitSh (.int .i64) (i : Int) := fit_len (by omega)
    unfold impl_yrising.l6.v
    refine EvF.lp (fun K j => impl_yrising.l6_eq K j x5 x5 (x5.length : Int) (i : Int)) (EvF.yes (by omega) ?_)
    try rw [hx]
    try rw [wrap_nat (i := i) (by omega)]
    exact (EvF.yes (by first | omega | (simp only [wrap64] at *; omega)) (EvF.ite (fun h0 => (EvF.yes (by first | omega | (simp only [wrap64] at *; omega)) (EvF.ite (fun h1 => (ih (i + 1)   hd2)) fun h1 => (EvF.now (fit_bool _))))) fun h0 => (ih (i + 1)   hd2)))
def impl_yrising.v (a0 : (List ByteArray)) : Bool :=
  (impl_yrising.l6.v a0 a0 0)
theorem impl_yrising.v_ev (a0 : (List ByteArray)) (f_a0 : fitSh (.list .str) a0) : EvF .bool (fun K _ => impl_yrising.f K a0) (impl_yrising.v a0) := by
  unfold impl_yrising.v
  exact EvF.fn (fun k => impl_yrising.f_eq k a0) (EvF.diag (impl_yrising.l6.v_ev a0 (f_a0)  _ 0    rfl))
def impl_GoodValue_1.v (a0 : T22) : Bool :=
  (let t0 := impl_GoodAtom.v a0; (!t0))
theorem impl_GoodValue_1.v_ev (a0 : T22) (f_a0 : fitSh S22 a0) : EvF .bool (fun K _ => impl_GoodValue_1.f K a0) (impl_GoodValue_1.v a0) := by
  unfold impl_GoodValue_1.v
  exact EvF.fn (fun k => impl_GoodValue_1.f_eq k a0) (EvF.bind (impl_GoodAtom.v_ev _ (f_a0)) fun f_t0 => (EvF.now (fit_bool _)))
def slices_IndexFunc_impl_Atom_impl_Atom.l6.v   : List T22 → Nat → Int
  | [], i => (-1)
  | e :: rest, i => (let t0 := impl_GoodValue_1.v e; (if t0 = true then (i : Int) else (slices_IndexFunc_impl_Atom_impl_Atom.l6.v rest (i + 1))))
theorem slices_IndexFunc_impl_Atom_impl_Atom.l6.v_ev (x0 : (List T22)) (f_x0 : fitSh (.list S22) x0)  : ∀ (rest : List T22) (i : Nat)  , x0.drop i = rest → EvF (.int .i64) (fun K j => slices_IndexFunc_impl_Atom_impl_Atom.l6 K j x0 (x0.length : Int) (i : Int)) (slices_IndexFunc_impl_Atom_impl_Atom.l6.v  rest i ) := by
  have bX : x0.length ≤ 140737488351232 := f_x0.1
  intro rest
  induction rest with
  | nil =>
    intro i hd
    have hz := drop_none hd
    unfold slices_IndexFunc_impl_Atom_impl_Atom.l6.v
    exact EvF.lp (fun K j => slices_IndexFunc_impl_Atom_impl_Atom.l6_eq K j x0 (x0.length : Int) (i : Int)) (EvF.no (by omega) (EvF.now ((fit_wfb rfl))))
  | cons e rest ih =>
    intro i hd
    obtain ⟨hlt, hd2, hx⟩ := drop_more hd
    have f_e : fitSh S22 e := hx (dflt S22) ▸ fit_rd f_x0 _
    have f_i : fitSh (.int .i64) (i : Int) := fit_len (by omega)
    unfold slices_IndexFunc_impl_Atom_impl_Atom.l6.v
    refine EvF.lp (fun K j => slices_IndexFunc_impl_Atom_impl_Atom.l6_eq K j x0 (x0.length : Int) (i : Int)) (EvF.yes (by omega) ?_)
    try rw [hx]
    try rw [wrap_nat (i := i) (by omega)]
    exact (EvF.yes (by first | omega | (simp only [wrap64] at *; omega)) (EvF.bind (impl_GoodValue_1.v_ev _ (f_e)) fun f_t0 => (EvF.ite (fun h0 => (EvF.now (f_i))) fun h0 => (ih (i + 1)   hd2))))
def slices_IndexFunc_impl_Atom_impl_Atom.v (a0 : (List T22)) : Int :=
  (slices_IndexFunc_impl_Atom_impl_Atom.l6.v a0 0)
theorem slices_IndexFunc_impl_Atom_impl_Atom.v_ev (a0 : (List T22)) (f_a0 : fitSh (.list S22) a0) : EvF (.int .i64) (fun K _ => slices_IndexFunc_impl_Atom_impl_Atom.f K a0) (slices_IndexFunc_impl_Atom_impl_Atom.v a0) := by
  unfold slices_IndexFunc_impl_Atom_impl_Atom.v
  exact EvF.fn (fun k => slices_IndexFunc_impl_Atom_impl_Atom.f_eq k a0) (EvF.diag (slices_IndexFunc_impl_Atom_impl_Atom.l6.v_ev a0 (f_a0)  _ 0    rfl))
def slices_ContainsFunc_impl_Atom_impl_Atom.v (a0 : (List T22)) : Bool :=
  (let t0 := slices_IndexFunc_impl_Atom_impl_Atom.v a0; (decide ((t0 : Int) ≥ 0)))
theorem slices_ContainsFunc_impl_Atom_impl_Atom.v_ev (a0 : (List T22)) (f_a0 : fitSh (.list S22) a0) : EvF .bool (fun K _ => slices_ContainsFunc_impl_Atom_impl_Atom.f K a0) (slices_ContainsFunc_impl_Atom_impl_Atom.v a0) := by
  unfold slices_ContainsFunc_impl_Atom_impl_Atom.v
  exact EvF.fn (fun k => slices_ContainsFunc_impl_Atom_impl_Atom.f_eq k a0) (EvF.bind (slices_IndexFunc_impl_Atom_impl_Atom.v_ev _ (f_a0)) fun f_t0 => (EvF.now (fit_bool _)))
def impl_GoodValue.v (a0 : T29) : Bool :=
  (if (a0.1 : Int) = 1 then (let t0 := impl_GoodAtom.v a0.2.1; (if t0 = true then (if ((a0.2.2.1.length : Int) : Int) = 0 then (decide (((a0.2.2.2.1.length : Int) : Int) = 0)) else false) else false)) else (if (a0.1 : Int) = 2 then (let t0 := impl_yzeroAtom.v a0.2.1; (if t0 = true then (if ((a0.2.2.1.length : Int) : Int) ≤ 50 then (if ((a0.2.2.2.1.length : Int) : Int) = 0 then (impl_yrisingAtoms.v a0.2.2.1) else false) else false) else false)) else (if (a0.1 : Int) = 3 then (let t0 := impl_yzeroAtom.v a0.2.1; (if t0 = true then (if ((a0.2.2.2.1.length : Int) : Int) ≤ 50 then (if ((a0.2.2.1.length : Int) : Int) = (a0.2.2.2.1.length : Int) then (let t1 := impl_yallNames.v a0.2.2.2.1; (if t1 = true then (let t2 := impl_yrising.v a0.2.2.2.1; (if t2 = true then (let t3 := slices_ContainsFunc_impl_Atom_impl_Atom.v a0.2.2.1; (!t3)) else false)) else false)) else false) else false) else false)) else false)))
theorem impl_GoodValue.v_ev (a0 : T29) (f_a0 : fitSh S29 a0) : EvF .bool (fun K _ => impl_GoodValue.f K a0) (impl_GoodValue.v a0) := by
  unfold impl_GoodValue.v
  exact EvF.fn (fun k => impl_GoodValue.f_eq k a0) (EvF.ite (fun h0 => (EvF.bind (impl_GoodAtom.v_ev _ (f_a0.2.1)) fun f_t0 => (EvF.ite (fun h1 => (EvF.ite (fun h2 => (EvF.now (fit_bool _))) fun h2 => (EvF.now (fit_bool _)))) fun h1 => (EvF.now (fit_bool _))))) fun h0 => (EvF.ite (fun h1 => (EvF.bind (impl_yzeroAtom.v_ev _ (f_a0.2.1)) fun f_t0 => (EvF.ite (fun h2 => (EvF.ite (fun h3 => (EvF.ite (fun h4 => (EvF.bind (impl_yrisingAtoms.v_ev _ (f_a0.2.2.1)) fun f_t1 => (EvF.now (fit_bool _)))) fun h4 => (EvF.now (fit_bool _)))) fun h3 => (EvF.now (fit_bool _)))) fun h2 => (EvF.now (fit_bool _))))) fun h1 => (EvF.ite (fun h2 => (EvF.bind (impl_yzeroAtom.v_ev _ (f_a0.2.1)) fun f_t0 => (EvF.ite (fun h3 => (EvF.ite (fun h4 => (EvF.ite (fun h5 => (EvF.bind (impl_yallNames.v_ev _ (f_a0.2.2.2.1)) fun f_t1 => (EvF.ite (fun h6 => (EvF.bind (impl_yrising.v_ev _ (f_a0.2.2.2.1)) fun f_t2 => (EvF.ite (fun h7 => (EvF.bind (slices_ContainsFunc_impl_Atom_impl_Atom.v_ev _ (f_a0.2.2.1)) fun f_t3 => (EvF.now (fit_bool _)))) fun h7 => (EvF.now (fit_bool _))))) fun h6 => (EvF.now (fit_bool _))))) fun h5 => (EvF.now (fit_bool _)))) fun h4 => (EvF.now (fit_bool _)))) fun h3 => (EvF.now (fit_bool _))))) fun h2 => (EvF.now (fit_bool _)))))

theorem allNames (l : List ByteArray) : impl_yallNames.v l = l.all goodName := by
  have h : ∀ (rest : List ByteArray) (i : Nat), decide (slices_IndexFunc_string_string.l6.v rest i ≥ 0) = !(rest.all goodName) := by
    intro rest
    induction rest with
    | nil => intro i; unfold slices_IndexFunc_string_string.l6.v; rfl
    | cons e rest ih =>
      intro i
      unfold slices_IndexFunc_string_string.l6.v impl_yallNames_1.v
      rw [List.all_cons]
      dsimp only [impl_GoodName.v]
      by_cases g : goodName e = true
      · simpa [g] using ih (i + 1)
      · simp [g]
  unfold impl_yallNames.v slices_ContainsFunc_string_string.v slices_IndexFunc_string_string.v
  dsimp only
  rw [h l 0, Bool.not_not]
theorem noBadAtom (l : List T22) : (!(slices_ContainsFunc_impl_Atom_impl_Atom.v l)) = l.all goodAtom := by
  have h : ∀ (rest : List T22) (i : Nat), decide (slices_IndexFunc_impl_Atom_impl_Atom.l6.v rest i ≥ 0) = !(rest.all goodAtom) := by
    intro rest
    induction rest with
    | nil => intro i; unfold slices_IndexFunc_impl_Atom_impl_Atom.l6.v; rfl
    | cons e rest ih =>
      intro i
      unfold slices_IndexFunc_impl_Atom_impl_Atom.l6.v impl_GoodValue_1.v
      rw [List.all_cons]
      dsimp only [impl_GoodAtom.v]
      by_cases g : goodAtom e = true
      · simpa [g] using ih (i + 1)
      · simp [g]
  unfold slices_ContainsFunc_impl_Atom_impl_Atom.v slices_IndexFunc_impl_Atom_impl_Atom.v
  dsimp only
  rw [h l 0, Bool.not_not]
theorem l70_both (x : List ByteArray) : ∀ (rest : List ByteArray) (i : Nat), spec_GoodValue.l70.v x rest i = (rest.all goodName && impl_yrising.l6.v x rest i)
  | [], i => by unfold spec_GoodValue.l70.v impl_yrising.l6.v; rfl
  | e :: rest, i => by
    unfold spec_GoodValue.l70.v impl_yrising.l6.v
    rw [l70_both x rest, List.all_cons]
    dsimp only [spec_GoodName.v, spec_l1CmpText.v]
    cases goodName e with
    | false => simp
    | true =>
      simp only [if_true, Bool.true_and]
      by_cases hi : (i : Int) > 0
      · rw [if_pos hi, if_pos hi]
        by_cases c : cmpT (rd (⟨#[]⟩ : ByteArray) x (wrap64 ((i : Int) - 1))) e ≥ 0
        · rw [if_pos c, if_neg (fun q => by have := (less_cmp _ _).1 q; omega)]; simp
        · rw [if_neg c, if_pos ((less_cmp _ _).2 (by omega))]
      · rw [if_neg hi, if_neg hi]
theorem l31_set (x : List T22) (n : List ByteArray) : ∀ (rest : List T22) (i : Nat), spec_GoodValue.l31.v x 2 n rest i = (impl_yrisingAtoms.l6.v x rest i && decide ((n.length : Int) = 0))
  | [], i => by unfold spec_GoodValue.l31.v impl_yrisingAtoms.l6.v; rfl
  | e :: rest, i => by
    unfold spec_GoodValue.l31.v impl_yrisingAtoms.l6.v
    rw [l31_set x n rest]
    dsimp only [spec_GoodAtom.v, impl_GoodAtom.v]
    cases goodAtom e with
    | false => simp
    | true =>
      simp only [if_true]
      by_cases hi : (i : Int) > 0
      · rw [if_pos hi, if_pos hi, cmpAtom_same]
        split <;> rfl
      · rw [if_neg hi, if_neg hi]
theorem l31_record (x : List T22) (n : List ByteArray) : ∀ (rest : List T22) (i : Nat), spec_GoodValue.l31.v x 3 n rest i = (rest.all goodAtom && (if (n.length : Int) = (x.length : Int) then spec_GoodValue.l70.v n n 0 else false))
  | [], i => by unfold spec_GoodValue.l31.v; simp
  | e :: rest, i => by
    unfold spec_GoodValue.l31.v
    rw [l31_record x n rest, List.all_cons]
    dsimp only [spec_GoodAtom.v]
    cases goodAtom e <;> simp
theorem value_same (v : T29) : impl_GoodValue.v v = spec_GoodValue.v v := by
  obtain ⟨k, a, l, n, ⟨⟩⟩ := v
  unfold impl_GoodValue.v spec_GoodValue.v
  dsimp only [impl_GoodAtom.v, spec_GoodAtom.v, impl_yzeroAtom.v]
  by_cases h1 : k = 1
  · rw [if_pos h1, if_pos h1]
  · rw [if_neg h1, if_neg h1]
    by_cases h2 : k = 2
    · subst h2
      rw [if_pos rfl, if_pos rfl, if_pos rfl, l31_set]
      unfold impl_yrisingAtoms.v
      by_cases hz : eqD S22 a ((0, (0, ((⟨#[]⟩ : ByteArray), ((⟨#[]⟩ : ByteArray), ())))) : T22) = true
      · rw [if_pos hz, if_pos hz]
        by_cases h : (l.length : Int) > 50
        · rw [if_pos h, if_neg (by omega)]
        · rw [if_neg h, if_pos (by omega)]
          by_cases g : (n.length : Int) = 0
          · rw [if_pos g, decide_eq_true g, Bool.and_true]
          · rw [if_neg g, decide_eq_false g, Bool.and_false]
      · rw [if_neg hz, if_neg hz]
    · rw [if_neg h2, if_neg h2]
      by_cases h3 : k = 3
      · subst h3
        rw [if_pos rfl, if_pos rfl, l31_record, l70_both, noBadAtom, allNames]
        unfold impl_yrising.v
        by_cases hz : eqD S22 a ((0, (0, ((⟨#[]⟩ : ByteArray), ((⟨#[]⟩ : ByteArray), ())))) : T22) = true
        · rw [if_pos hz, if_pos hz]
          by_cases g : (l.length : Int) = (n.length : Int)
          · rw [if_pos g, if_pos g.symm]
            by_cases h : (l.length : Int) > 50
            · rw [if_pos h, if_neg (by omega)]
            · rw [if_neg h, if_pos (by omega)]
              cases n.all goodName <;> cases impl_yrising.l6.v n n 0 <;> cases l.all goodAtom <;> rfl
          · rw [if_neg (show ¬ ((n.length : Int) = (l.length : Int)) from fun q => g q.symm), Bool.and_false]
            simp [g]
        · rw [if_neg hz, if_neg hz]
      · rw [if_neg h3, if_neg h3]
/-- a record has as many names as items -/
theorem record_len {v : T29} (h3 : v.1 = 3) (h : spec_GoodValue.v v = true) : v.2.2.2.1.length ≤ v.2.2.1.length := by
  rw [← value_same] at h
  unfold impl_GoodValue.v at h
  rw [if_neg (by omega), if_neg (by omega), if_pos h3] at h
  dsimp only at h
  split at h
  · split at h
    · split at h
      · omega
      · cases h
    · cases h
  · cases h

/-! ### a block in a block -/
abbrev ATm : Type := Int × Int × ByteArray × ByteArray × Unit
def addrIn (a b : ATm) : Bool := goodAtom a && goodAtom b && decide (a.1 = 6 ∧ b.1 = 6) && decide (a.2.1 % 64 ≥ b.2.1 % 64 ∧ a.2.1 / 64 / 2 ^ (32 - b.2.1 % 64).toNat = b.2.1 / 64 / 2 ^ (32 - b.2.1 % 64).toNat)
theorem good6 {a : ATm} (h1 : a.1 = 6) (h : goodAtom a = true) : 0 ≤ a.2.1 ∧ a.2.1 % 64 ≤ 32 ∧ a.2.1 / 64 < 4294967296 ∧ (a.2.1 / 64) % 2 ^ (32 - a.2.1 % 64).toNat = 0 := by
  rw [goodAtom6 h1] at h
  simp only [Bool.and_eq_true, decide_eq_true_eq] at h
  exact ⟨h.1.2.2.1, h.1.2.2.2.1, h.1.2.2.2.2, h.2⟩
/-- Blocks: one begins and ends in the other exactly where it is no greater and lies over the same bits. -/
theorem blocks {x y p q : Int} (hp : 0 < p) (hq : 0 < q) (hx0 : 0 ≤ x) (hy0 : 0 ≤ y) (hx : x % p = 0) (hy : y % q = 0) (hd : q % p = 0 ∨ (p % q = 0 ∧ q < p)) :
    (y ≤ x ∧ x + p ≤ y + q) ↔ (q % p = 0 ∧ x / q = y / q) := by
  obtain ⟨a, rfl⟩ := Int.dvd_of_emod_eq_zero hx
  obtain ⟨b, rfl⟩ := Int.dvd_of_emod_eq_zero hy
  have hb : q * b / q = b := Int.mul_ediv_cancel_left _ (by omega)
  rw [hb]
  constructor
  · rintro ⟨h1, h2⟩
    have hpq : p ≤ q := by omega
    have hd' : q % p = 0 := by
      rcases hd with h | h
      · exact h
      · omega
    refine ⟨hd', ?_⟩
    have e : p * a = (p * a - q * b) + q * b := by omega
    rw [e, Int.add_mul_ediv_left _ _ (by omega), Int.ediv_eq_zero_of_lt (by omega) (by omega)]
    omega
  · rintro ⟨hd', h⟩
    obtain ⟨c, rfl⟩ := Int.dvd_of_emod_eq_zero hd'
    have h1 := Int.mul_ediv_self_le (x := p * a) (k := p * c) (by omega)
    rw [h] at h1
    refine ⟨h1, ?_⟩
    have h2 := Int.lt_mul_ediv_self_add (x := p * a) (k := p * c) hq
    rw [h] at h2
    -- p * a < p * c * b + p * c: so a < c * b + c, and a + 1 ≤ it
    have e1 : p * c * b + p * c = p * (c * b + c) := by rw [Int.mul_add, Int.mul_assoc]
    rw [e1] at h2 ⊢
    have h3 : a < c * b + c := Int.lt_of_mul_lt_mul_left h2 (by omega)
    have h4 : p * (a + 1) ≤ p * (c * b + c) := Int.mul_le_mul_of_nonneg_left (by omega) (by omega)
    rw [Int.mul_add, Int.mul_one] at h4
    exact h4
theorem pow_mod {a b : Nat} (h : a ≤ b) : (2 : Int) ^ b % 2 ^ a = 0 := by
  obtain ⟨d, rfl⟩ := Nat.exists_eq_add_of_le h
  rw [Int.pow_add]; exact Int.mul_emod_right _ _
theorem pow_lt {a b : Nat} (h : a < b) : (2 : Int) ^ a < 2 ^ b := by
  have h1 := pow_mono (show a + 1 ≤ b by omega)
  rw [Int.pow_succ] at h1
  have := pow_pos' a
  omega
theorem addr_blocks {a b : ATm} (ha : a.1 = 6) (hb : b.1 = 6) (g : goodAtom a = true) (g' : goodAtom b = true) :
    (b.2.1 / 64 ≤ a.2.1 / 64 ∧ a.2.1 / 64 + 2 ^ (32 - a.2.1 % 64).toNat ≤ b.2.1 / 64 + 2 ^ (32 - b.2.1 % 64).toNat) ↔ (a.2.1 % 64 ≥ b.2.1 % 64 ∧ a.2.1 / 64 / 2 ^ (32 - b.2.1 % 64).toNat = b.2.1 / 64 / 2 ^ (32 - b.2.1 % 64).toNat) := by
  obtain ⟨a1, a2, a3, a4⟩ := good6 ha g
  obtain ⟨b1, b2, b3, b4⟩ := good6 hb g'
  generalize a.2.1 = n at *
  generalize b.2.1 = n' at *
  have hd : (2 : Int) ^ (32 - n' % 64).toNat % 2 ^ (32 - n % 64).toNat = 0 ∨ ((2 : Int) ^ (32 - n % 64).toNat % 2 ^ (32 - n' % 64).toNat = 0 ∧ (2 : Int) ^ (32 - n' % 64).toNat < 2 ^ (32 - n % 64).toNat) := by
    by_cases h : n % 64 ≥ n' % 64
    · exact Or.inl (pow_mod (by omega))
    · exact Or.inr ⟨pow_mod (by omega), pow_lt (by omega)⟩
  rw [blocks (pow_pos' _) (pow_pos' _) (by omega) (by omega) a4 b4 hd]
  constructor
  · rintro ⟨h, he⟩
    refine ⟨?_, he⟩
    apply Classical.byContradiction
    intro hlt
    have h1 := pow_lt (show (32 - n' % 64).toNat < (32 - n % 64).toNat by omega)
    have h2 := pow_pos' (32 - n' % 64).toNat
    rw [Int.emod_eq_of_lt (by omega) h1] at h
    omega
  · rintro ⟨h, he⟩
    exact ⟨pow_mod (by omega), he⟩
abbrev spec_AddrIn.v (a b : ATm) : Bool := addrIn a b
abbrev impl_AddrIn.v (a b : ATm) : Bool := addrIn a b
theorem spec_AddrIn_ev (a b : T22) (fa : fitSh S22 a) (fb : fitSh S22 b) : Ev (fun K _ => spec_AddrIn.f K a b) (addrIn a b) := by
  refine Ev.fn (fun k => spec_AddrIn.f_eq k a b) ?_
  unfold addrIn
  refine (spec_GoodAtom.v_ev a fa).1.bind (Ev.ite (fun g => ?_) fun g => Ev.some (by rw [show goodAtom a = false from Bool.eq_false_iff.2 g]; rfl))
  refine (spec_GoodAtom.v_ev b fb).1.bind (Ev.ite (fun g' => ?_) fun g' => Ev.some (by rw [show goodAtom b = false from Bool.eq_false_iff.2 g']; simp))
  have g : goodAtom a = true := g
  have g' : goodAtom b = true := g'
  rw [g, g', Bool.true_and, Bool.true_and]
  refine Ev.ite (fun h6 => Ev.ite (fun h6' => ?_) fun h6' => Ev.some (by rw [decide_eq_false (fun q => h6' q.2)]; rfl)) fun h6 => Ev.some (by rw [decide_eq_false (fun q => h6 q.1)]; rfl)
  rw [decide_eq_true (show a.1 = 6 ∧ b.1 = 6 from ⟨h6, h6'⟩), Bool.true_and]
  obtain ⟨a1, a2, a3, a4⟩ := good6 h6 g
  obtain ⟨b1, b2, b3, b4⟩ := good6 h6' g'
  have z := addr_blocks h6 h6' g g'
  have p1 := two_small (32 - a.2.1 % 64) (by omega)
  have p2 := two_small (32 - b.2.1 % 64) (by omega)
  refine (spec_l1Block_ev a a1 (by omega) a2).bind ((spec_l1Block_ev b b1 (by omega) b2).bind ?_)
  simp only
  rw [wrap_id (x := a.2.1 / 64 + _) (by omega) (by omega), wrap_id (x := b.2.1 / 64 + _) (by omega) (by omega)]
  refine Ev.ite (fun hc => Ev.some ?_) fun hc => Ev.some ?_
  · rw [decide_eq_decide, ← z]
    exact ⟨fun h => ⟨hc, h⟩, fun h => h.2⟩
  · rw [eq_comm, decide_eq_false_iff_not, ← z]
    exact fun h => hc h.1
theorem shr_left (x : Int) {n : Int} (h0 : 0 ≤ n) (h : n % 64 ≤ 32) : shrI .i64 x (32 - n % 64) = x / 2 ^ (32 - n % 64).toNat := by
  unfold shrI
  rw [Nat.min_eq_left (by simp [IntKind.bits]; omega), Int.fdiv_eq_ediv_of_nonneg _ (Int.le_of_lt (pow_pos' _))]
theorem impl_AddrIn_ev (a b : T22) (fa : fitSh S22 a) (fb : fitSh S22 b) : Ev (fun K _ => impl_AddrIn.f K a b) (addrIn a b) := by
  refine Ev.fn (fun k => impl_AddrIn.f_eq k a b) ?_
  unfold addrIn
  refine Ev.ite (fun h6 => Ev.ite (fun h6' => ?_) fun h6' => Ev.some (by rw [decide_eq_false (show ¬ (a.1 = 6 ∧ b.1 = 6) from fun q => h6' q.2)]; simp)) fun h6 => Ev.some (by rw [decide_eq_false (show ¬ (a.1 = 6 ∧ b.1 = 6) from fun q => h6 q.1)]; simp)
  rw [decide_eq_true (show a.1 = 6 ∧ b.1 = 6 from ⟨h6, h6'⟩), Bool.and_true]
  refine (impl_GoodAtom.v_ev a fa).1.bind (Ev.ite (fun g => ?_) fun g => Ev.some (by rw [show goodAtom a = false from Bool.eq_false_iff.2 g]; rfl))
  refine (impl_GoodAtom.v_ev b fb).1.bind (Ev.ite (fun g' => ?_) fun g' => Ev.some (by rw [show goodAtom b = false from Bool.eq_false_iff.2 g']; simp))
  have g : goodAtom a = true := g
  have g' : goodAtom b = true := g'
  rw [g, g', Bool.true_and, Bool.true_and]
  obtain ⟨a1, a2, a3, a4⟩ := good6 h6 g
  obtain ⟨b1, b2, b3, b4⟩ := good6 h6' g'
  have wa := i64_of fa.2.1
  have wb := i64_of fb.2.1
  rw [tmod64 a1, tmod64 b1, bits_left b2, tdiv64 a1 (by omega), tdiv64 b1 (by omega), shr_left _ b1 b2, shr_left _ b1 b2]
  refine Ev.ite (fun hc => Ev.no (by omega) (Ev.no (by omega) (Ev.some ?_))) fun hc => Ev.some ?_
  · rw [decide_eq_decide]
    exact ⟨fun h => ⟨hc, h⟩, fun h => h.2⟩
  · rw [eq_comm, decide_eq_false_iff_not]
    exact fun h => hc h.1
theorem spec_AddrIn.v_ev (a b : T22) (fa : fitSh S22 a) (fb : fitSh S22 b) : EvF .bool (fun K _ => spec_AddrIn.f K a b) (spec_AddrIn.v a b) := ⟨spec_AddrIn_ev a b fa fb, trivial⟩
theorem impl_AddrIn.v_ev (a b : T22) (fa : fitSh S22 a) (fb : fitSh S22 b) : EvF .bool (fun K _ => impl_AddrIn.f K a b) (impl_AddrIn.v a b) := ⟨impl_AddrIn_ev a b fa fb, trivial⟩

def spec_l6Record.v (a0 : T29) : Bool :=
  (if (a0.1 : Int) = 3 then (spec_GoodValue.v a0) else false)
theorem spec_l6Record.v_ev (a0 : T29) (f_a0 : fitSh S29 a0) : EvF .bool (fun K _ => spec_l6Record.f K a0) (spec_l6Record.v a0) := by
  unfold spec_l6Record.v
  exact EvF.fn (fun k => spec_l6Record.f_eq k a0) (EvF.ite (fun h0 => (EvF.bind (spec_GoodValue.v_ev _ (f_a0)) fun f_t0 => (EvF.now (fit_bool _)))) fun h0 => (EvF.now (fit_bool _)))

def impl_ygoodRecord.v (a0 : T29) : Bool :=
  (if (a0.1 : Int) = 3 then (impl_GoodValue.v a0) else false)
theorem impl_ygoodRecord.v_ev (a0 : T29) (f_a0 : fitSh S29 a0) : EvF .bool (fun K _ => impl_ygoodRecord.f K a0) (impl_ygoodRecord.v a0) := by
  unfold impl_ygoodRecord.v
  exact EvF.fn (fun k => impl_ygoodRecord.f_eq k a0) (EvF.ite (fun h0 => (EvF.bind (impl_GoodValue.v_ev _ (f_a0)) fun f_t0 => (EvF.now (fit_bool _)))) fun h0 => (EvF.now (fit_bool _)))

theorem l6record_len {v : T29} (h : spec_l6Record.v v = true) : v.2.2.2.1.length ≤ v.2.2.1.length := by
  unfold spec_l6Record.v at h
  split at h
  · rename_i h3; exact record_len h3 h
  · cases h
theorem record_same (v : T29) : impl_ygoodRecord.v v = spec_l6Record.v v := by
  unfold impl_ygoodRecord.v spec_l6Record.v; rw [value_same]
def spec_l6Param.l6.v (x1 : ByteArray)  : List T74 → Nat → (T74 × (Bool × Unit))
  | [], i => (((⟨#[]⟩ : ByteArray), (0, ())), (false, ()))
  | e :: rest, i => (if e.1.toList = x1.toList then (e, (true, ())) else (spec_l6Param.l6.v x1 rest (i + 1)))
theorem spec_l6Param.l6.v_ev (x1 : ByteArray) (x8 : (List T74)) (y0_0 : ByteArray) (y0_1 : Int) (f_x1 : fitSh .str x1) (f_x8 : fitSh (.list S74) x8) (f_y0_0 : fitSh .str y0_0) (f_y0_1 : fitSh (.int .i64) y0_1)  : ∀ (rest : List T74) (i : Nat)  , x8.drop i = rest → EvF (.pair S74 (.pair .bool .unit)) (fun K j => spec_l6Param.l6 K j x1 x8 (x8.length : Int) (i : Int) y0_0 y0_1) (spec_l6Param.l6.v x1 rest i ) := by
  have bX : x8.length ≤ 140737488351232 := f_x8.1
  intro rest
  induction rest with
  | nil =>
    intro i hd
    have hz := drop_none hd
    unfold spec_l6Param.l6.v
    exact EvF.lp (fun K j => spec_l6Param.l6_eq K j x1 x8 (x8.length : Int) (i : Int) y0_0 y0_1) (EvF.no (by omega) (EvF.now (fit_pair (fit_pair ((fit_bytes rfl)) (fit_pair ((fit_wfb rfl)) (fit_unit))) (fit_pair (fit_bool _) (fit_unit)))))
  | cons e rest ih =>
    intro i hd
    obtain ⟨hlt, hd2, hx⟩ := drop_more hd
    have f_e : fitSh S74 e := hx (dflt S74) ▸ fit_rd f_x8 _
    have f_i : fitSh (.int .i64) (i : Int) := fit_len (by omega)
    unfold spec_l6Param.l6.v
    refine EvF.lp (fun K j => spec_l6Param.l6_eq K j x1 x8 (x8.length : Int) (i : Int) y0_0 y0_1) (EvF.yes (by omega) ?_)
    try rw [hx]
    try rw [wrap_nat (i := i) (by omega)]
    exact (EvF.yes (by first | omega | (simp only [wrap64] at *; omega)) (EvF.ite (fun h0 => (EvF.now (fit_pair (f_e) (fit_pair (fit_bool _) (fit_unit))))) fun h0 => (ih (i + 1)   hd2)))
def spec_l6Param.v (a0 : (List T74)) (a1 : ByteArray) : (T74 × (Bool × Unit)) :=
  (spec_l6Param.l6.v a1 a0 0)
theorem spec_l6Param.v_ev (a0 : (List T74)) (a1 : ByteArray) (f_a0 : fitSh (.list S74) a0) (f_a1 : fitSh .str a1) : EvF (.pair S74 (.pair .bool .unit)) (fun K _ => spec_l6Param.f K a0 a1) (spec_l6Param.v a0 a1) := by
  unfold spec_l6Param.v
  exact EvF.fn (fun k => spec_l6Param.f_eq k a0 a1) (EvF.diag (spec_l6Param.l6.v_ev a1 a0 (⟨#[]⟩ : ByteArray) 0 (f_a1) (f_a0) ((fit_bytes rfl)) ((fit_wfb rfl))  _ 0    rfl))
def spec_l6Field.l6.v (x1 : ByteArray) (y0_5 : (List T22))  : List ByteArray → Nat → (T22 × (Bool × Unit))
  | [], i => ((0, (0, ((⟨#[]⟩ : ByteArray), ((⟨#[]⟩ : ByteArray), ())))), (false, ()))
  | e :: rest, i => (if e.toList = x1.toList then ((rd Z22 y0_5 (i : Int)), (true, ())) else (spec_l6Field.l6.v x1 y0_5 rest (i + 1)))
theorem spec_l6Field.l6.v_ev (x1 : ByteArray) (x9 : (List ByteArray)) (y0_0 : Int) (y0_1 : Int) (y0_2 : Int) (y0_3 : ByteArray) (y0_4 : ByteArray) (y0_5 : (List T22)) (y1_0 : Int) (y1_1 : Int) (y1_2 : ByteArray) (y1_3 : ByteArray) (f_x1 : fitSh .str x1) (f_x9 : fitSh (.list .str) x9) (f_y0_0 : fitSh (.int .i64) y0_0) (f_y0_1 : fitSh (.int .i64) y0_1) (f_y0_2 : fitSh (.int .i64) y0_2) (f_y0_3 : fitSh .str y0_3) (f_y0_4 : fitSh .str y0_4) (f_y0_5 : fitSh (.list S22) y0_5) (f_y1_0 : fitSh (.int .i64) y1_0) (f_y1_1 : fitSh (.int .i64) y1_1) (f_y1_2 : fitSh .str y1_2) (f_y1_3 : fitSh .str y1_3) (hp : x9.length ≤ y0_5.length)  : ∀ (rest : List ByteArray) (i : Nat)  , x9.drop i = rest → EvF (.pair S22 (.pair .bool .unit)) (fun K j => spec_l6Field.l6 K j x1 x9 (x9.length : Int) (i : Int) y0_0 y0_1 y0_2 y0_3 y0_4 y0_5 x9 y1_0 y1_1 y1_2 y1_3) (spec_l6Field.l6.v x1 y0_5 rest i ) := by
  have bX : x9.length ≤ 140737488351232 := f_x9.1
  intro rest
  induction rest with
  | nil =>
    intro i hd
    have hz := drop_none hd
    unfold spec_l6Field.l6.v
    exact EvF.lp (fun K j => spec_l6Field.l6_eq K j x1 x9 (x9.length : Int) (i : Int) y0_0 y0_1 y0_2 y0_3 y0_4 y0_5 x9 y1_0 y1_1 y1_2 y1_3) (EvF.no (by omega) (EvF.now (fit_pair (fit_pair ((fit_wfb rfl)) (fit_pair ((fit_wfb rfl)) (fit_pair ((fit_bytes rfl)) (fit_pair ((fit_bytes rfl)) (fit_unit))))) (fit_pair (fit_bool _) (fit_unit)))))
  | cons e rest ih =>
    intro i hd
    obtain ⟨hlt, hd2, hx⟩ := drop_more hd
    have f_e : fitSh .str e := hx (dflt .str) ▸ fit_rd f_x9 _
    have f_i : fitSh (.int .i64) (i : Int) := fit_len (by omega)
    unfold spec_l6Field.l6.v
    refine EvF.lp (fun K j => spec_l6Field.l6_eq K j x1 x9 (x9.length : Int) (i : Int) y0_0 y0_1 y0_2 y0_3 y0_4 y0_5 x9 y1_0 y1_1 y1_2 y1_3) (EvF.yes (by omega) ?_)
    try rw [hx]
    try rw [wrap_nat (i := i) (by omega)]
    exact (EvF.yes (by first | omega | (simp only [wrap64] at *; omega)) (EvF.ite (fun h0 => (EvF.yes (by first | omega | (simp only [wrap64] at *; omega)) (EvF.now (fit_pair ((fit_rd (f_y0_5) _)) (fit_pair (fit_bool _) (fit_unit)))))) fun h0 => (ih (i + 1)   hd2)))
def spec_l6Field.v (a0 : T29) (a1 : ByteArray) : (T22 × (Bool × Unit)) :=
  (spec_l6Field.l6.v a1 a0.2.2.1 a0.2.2.2.1 0)
theorem spec_l6Field.v_ev (a0 : T29) (a1 : ByteArray) (f_a0 : fitSh S29 a0) (f_a1 : fitSh .str a1) (hp : a0.2.2.2.1.length ≤ a0.2.2.1.length) : EvF (.pair S22 (.pair .bool .unit)) (fun K _ => spec_l6Field.f K a0 a1) (spec_l6Field.v a0 a1) := by
  unfold spec_l6Field.v
  exact EvF.fn (fun k => spec_l6Field.f_eq k a0 a1) (EvF.diag (spec_l6Field.l6.v_ev a1 a0.2.2.2.1 a0.1 a0.2.1.1 a0.2.1.2.1 a0.2.1.2.2.1 a0.2.1.2.2.2.1 a0.2.2.1 0 0 (⟨#[]⟩ : ByteArray) (⟨#[]⟩ : ByteArray) (f_a1) (f_a0.2.2.2.1) (f_a0.1) (f_a0.2.1.1) (f_a0.2.1.2.1) (f_a0.2.1.2.2.1) (f_a0.2.1.2.2.2.1) (f_a0.2.2.1) ((fit_wfb rfl)) ((fit_wfb rfl)) ((fit_bytes rfl)) ((fit_bytes rfl)) (by first | assumption | omega | exact l6record_len (by assumption))  _ 0    rfl))
def spec_l6Value.v (a0 : (List T74)) (a1 : T29) (a2 : ByteArray) : (T22 × (Bool × Unit)) :=
  (let t0 := spec_l6Param.v a0 a2; (let t1 := spec_l6Field.v a1 a2; (if t0.2.1 = true then (if t1.2.1 = true then (t1.1, ((decide ((t1.1.1 : Int) = t0.1.2.1)), ())) else (t1.1, (false, ()))) else (t1.1, (false, ())))))
theorem spec_l6Value.v_ev (a0 : (List T74)) (a1 : T29) (a2 : ByteArray) (f_a0 : fitSh (.list S74) a0) (f_a1 : fitSh S29 a1) (f_a2 : fitSh .str a2) (hp : a1.2.2.2.1.length ≤ a1.2.2.1.length) : EvF (.pair S22 (.pair .bool .unit)) (fun K _ => spec_l6Value.f K a0 a1 a2) (spec_l6Value.v a0 a1 a2) := by
  unfold spec_l6Value.v
  exact EvF.fn (fun k => spec_l6Value.f_eq k a0 a1 a2) (EvF.bind (spec_l6Param.v_ev _ _ (f_a0) (f_a2)) fun f_t0 => (EvF.bind (spec_l6Field.v_ev _ _ (f_a1) (f_a2) (by first | assumption | omega | exact l6record_len (by assumption))) fun f_t1 => (EvF.ite (fun h0 => (EvF.ite (fun h1 => (EvF.now (fit_pair (f_t1.1) (fit_pair (fit_bool _) (fit_unit))))) fun h1 => (EvF.now (fit_pair (f_t1.1) (fit_pair (fit_bool _) (fit_unit)))))) fun h0 => (EvF.now (fit_pair (f_t1.1) (fit_pair (fit_bool _) (fit_unit)))))))
def spec_CompareAtoms.v (a0 : T22) (a1 : T22) : Int :=
  (let t0 := spec_GoodAtom.v a0; (if t0 = true then (let t1 := spec_GoodAtom.v a1; (if t1 = true then (spec_l1Cmp.v a0 a1) else (-2))) else (-2)))
theorem spec_CompareAtoms.v_ev (a0 : T22) (a1 : T22) (f_a0 : fitSh S22 a0) (f_a1 : fitSh S22 a1) : EvF (.int .i64) (fun K _ => spec_CompareAtoms.f K a0 a1) (spec_CompareAtoms.v a0 a1) := by
  unfold spec_CompareAtoms.v
  exact EvF.fn (fun k => spec_CompareAtoms.f_eq k a0 a1) (EvF.bind (spec_GoodAtom.v_ev _ (f_a0)) fun f_t0 => (EvF.ite (fun h0 => (EvF.bind (spec_GoodAtom.v_ev _ (f_a1)) fun f_t1 => (EvF.ite (fun h1 => (EvF.bind (spec_l1Cmp.v_ev _ _ (f_a0) (f_a1)) fun f_t2 => (EvF.now (f_t2)))) fun h1 => (EvF.now ((fit_wfb rfl)))))) fun h0 => (EvF.now ((fit_wfb rfl)))))
def spec_l3Said.v (a0 : Bool) : Int :=
  (if a0 = true then 1 else 0)
theorem spec_l3Said.v_ev (a0 : Bool) (f_a0 : fitSh .bool a0) : EvF (.int .i64) (fun K _ => spec_l3Said.f K a0) (spec_l3Said.v a0) := by
  unfold spec_l3Said.v
  exact EvF.fn (fun k => spec_l3Said.f_eq k a0) (EvF.ite (fun h0 => (EvF.now ((fit_wfb rfl)))) fun h0 => (EvF.now ((fit_wfb rfl))))
def spec_l6Term.v (a0 : T24) (a1 : (List T74)) (a2 : T29) : Int :=
  (let t0 := spec_l6Value.v a1 a2 a0.1; (if a0.2.2.1.toList = (⟨#[]⟩ : ByteArray).toList then (if t0.2.1 = true then (if (a0.2.1 : Int) = 1 then (let t1 := spec_CompareAtoms.v t0.1 a0.2.2.2.1; (spec_l3Said.v (decide ((t1 : Int) = 0)))) else (if (a0.2.1 : Int) = 2 then (let t1 := spec_CompareAtoms.v t0.1 a0.2.2.2.1; (spec_l3Said.v (decide ((t1 : Int) = (-1))))) else (if (a0.2.1 : Int) = 3 then (let t1 := spec_CompareAtoms.v t0.1 a0.2.2.2.1; (if (t1 : Int) = (-1) then (spec_l3Said.v true) else (spec_l3Said.v (decide ((t1 : Int) = 0))))) else (let t1 := spec_AddrIn.v t0.1 a0.2.2.2.1; (spec_l3Said.v t1))))) else 2) else (let t1 := spec_l6Value.v a1 a2 a0.2.2.1; (if t0.2.1 = true then (if t1.2.1 = true then (if (a0.2.1 : Int) = 1 then (let t2 := spec_CompareAtoms.v t0.1 t1.1; (spec_l3Said.v (decide ((t2 : Int) = 0)))) else (if (a0.2.1 : Int) = 2 then (let t2 := spec_CompareAtoms.v t0.1 t1.1; (spec_l3Said.v (decide ((t2 : Int) = (-1))))) else (if (a0.2.1 : Int) = 3 then (let t2 := spec_CompareAtoms.v t0.1 t1.1; (if (t2 : Int) = (-1) then (spec_l3Said.v true) else (spec_l3Said.v (decide ((t2 : Int) = 0))))) else (let t2 := spec_AddrIn.v t0.1 t1.1; (spec_l3Said.v t2))))) else 2) else 2))))
theorem spec_l6Term.v_ev (a0 : T24) (a1 : (List T74)) (a2 : T29) (f_a0 : fitSh S24 a0) (f_a1 : fitSh (.list S74) a1) (f_a2 : fitSh S29 a2) (hp : a2.2.2.2.1.length ≤ a2.2.2.1.length) : EvF (.int .i64) (fun K _ => spec_l6Term.f K a0 a1 a2) (spec_l6Term.v a0 a1 a2) := by
  unfold spec_l6Term.v
  exact EvF.fn (fun k => spec_l6Term.f_eq k a0 a1 a2) (EvF.bind (spec_l6Value.v_ev _ _ _ (f_a1) (f_a2) (f_a0.1) (by first | assumption | omega | exact l6record_len (by assumption))) fun f_t0 => (EvF.ite (fun h0 => (EvF.ite (fun h1 => (EvF.ite (fun h2 => (EvF.bind (spec_CompareAtoms.v_ev _ _ (f_t0.1) (f_a0.2.2.2.1)) fun f_t1 => (EvF.bind (spec_l3Said.v_ev _ (fit_bool _)) fun f_t2 => (EvF.now (f_t2))))) fun h2 => (EvF.ite (fun h3 => (EvF.bind (spec_CompareAtoms.v_ev _ _ (f_t0.1) (f_a0.2.2.2.1)) fun f_t1 => (EvF.bind (spec_l3Said.v_ev _ (fit_bool _)) fun f_t2 => (EvF.now (f_t2))))) fun h3 => (EvF.ite (fun h4 => (EvF.bind (spec_CompareAtoms.v_ev _ _ (f_t0.1) (f_a0.2.2.2.1)) fun f_t1 => (EvF.ite (fun h5 => (EvF.bind (spec_l3Said.v_ev _ (fit_bool _)) fun f_t2 => (EvF.now (f_t2)))) fun h5 => (EvF.bind (spec_l3Said.v_ev _ (fit_bool _)) fun f_t2 => (EvF.now (f_t2)))))) fun h4 => (EvF.bind (spec_AddrIn.v_ev _ _ (f_t0.1) (f_a0.2.2.2.1)) fun f_t1 => (EvF.bind (spec_l3Said.v_ev _ (fit_bool _)) fun f_t2 => (EvF.now (f_t2)))))))) fun h1 => (EvF.now ((fit_wfb rfl))))) fun h0 => (EvF.bind (spec_l6Value.v_ev _ _ _ (f_a1) (f_a2) (f_a0.2.2.1) (by first | assumption | omega | exact l6record_len (by assumption))) fun f_t1 => (EvF.ite (fun h1 => (EvF.ite (fun h2 => (EvF.ite (fun h3 => (EvF.bind (spec_CompareAtoms.v_ev _ _ (f_t0.1) (f_t1.1)) fun f_t2 => (EvF.bind (spec_l3Said.v_ev _ (fit_bool _)) fun f_t3 => (EvF.now (f_t3))))) fun h3 => (EvF.ite (fun h4 => (EvF.bind (spec_CompareAtoms.v_ev _ _ (f_t0.1) (f_t1.1)) fun f_t2 => (EvF.bind (spec_l3Said.v_ev _ (fit_bool _)) fun f_t3 => (EvF.now (f_t3))))) fun h4 => (EvF.ite (fun h5 => (EvF.bind (spec_CompareAtoms.v_ev _ _ (f_t0.1) (f_t1.1)) fun f_t2 => (EvF.ite (fun h6 => (EvF.bind (spec_l3Said.v_ev _ (fit_bool _)) fun f_t3 => (EvF.now (f_t3)))) fun h6 => (EvF.bind (spec_l3Said.v_ev _ (fit_bool _)) fun f_t3 => (EvF.now (f_t3)))))) fun h5 => (EvF.bind (spec_AddrIn.v_ev _ _ (f_t0.1) (f_t1.1)) fun f_t2 => (EvF.bind (spec_l3Said.v_ev _ (fit_bool _)) fun f_t3 => (EvF.now (f_t3)))))))) fun h2 => (EvF.now ((fit_wfb rfl))))) fun h1 => (EvF.now ((fit_wfb rfl)))))))
def spec_TermHolds.v (a0 : T24) (a1 : (List T74)) (a2 : T29) : Int :=
  (let t0 := spec_l6Record.v a2; (if t0 = true then (if (a0.2.1 : Int) < 1 then (-1) else (if (a0.2.1 : Int) > 4 then (-1) else (if a0.2.2.1.toList = (⟨#[]⟩ : ByteArray).toList then (spec_l6Term.v a0 a1 a2) else (if (eqD S22 (a0.2.2.2.1 : T22) ((0, (0, ((⟨#[]⟩ : ByteArray), ((⟨#[]⟩ : ByteArray), ())))) : T22)) = true then (spec_l6Term.v a0 a1 a2) else (-1))))) else (-1)))
theorem spec_TermHolds.v_ev (a0 : T24) (a1 : (List T74)) (a2 : T29) (f_a0 : fitSh S24 a0) (f_a1 : fitSh (.list S74) a1) (f_a2 : fitSh S29 a2) : EvF (.int .i64) (fun K _ => spec_TermHolds.f K a0 a1 a2) (spec_TermHolds.v a0 a1 a2) := by
  unfold spec_TermHolds.v
  exact EvF.fn (fun k => spec_TermHolds.f_eq k a0 a1 a2) (EvF.bind (spec_l6Record.v_ev _ (f_a2)) fun f_t0 => (EvF.ite (fun h0 => (EvF.ite (fun h1 => (EvF.now ((fit_wfb rfl)))) fun h1 => (EvF.ite (fun h2 => (EvF.now ((fit_wfb rfl)))) fun h2 => (EvF.ite (fun h3 => (EvF.bind (spec_l6Term.v_ev _ _ _ (f_a0) (f_a1) (f_a2) (by first | assumption | omega | exact l6record_len (by assumption))) fun f_t1 => (EvF.now (f_t1)))) fun h3 => (EvF.ite (fun h4 => (EvF.bind (spec_l6Term.v_ev _ _ _ (f_a0) (f_a1) (f_a2) (by first | assumption | omega | exact l6record_len (by assumption))) fun f_t1 => (EvF.now (f_t1)))) fun h4 => (EvF.now ((fit_wfb rfl)))))))) fun h0 => (EvF.now ((fit_wfb rfl)))))

def impl_yterm_1_1.v (a0 : T74) : ByteArray :=
  a0.1
theorem impl_yterm_1_1.v_ev (a0 : T74) (f_a0 : fitSh S74 a0) : EvF .str (fun K _ => impl_yterm_1_1.f K a0) (impl_yterm_1_1.v a0) := by
  unfold impl_yterm_1_1.v
  exact EvF.fn (fun k => impl_yterm_1_1.f_eq k a0) (EvF.now (f_a0.1))
def impl_yfind_impl_Param.l6.v (x2 : ByteArray)  : List T74 → Nat → (T74 × (Bool × Unit))
  | [], i => (((⟨#[]⟩ : ByteArray), (0, ())), (false, ()))
  | e :: rest, i => (let t0 := impl_yterm_1_1.v e; (if t0.toList = x2.toList then (e, (true, ())) else (impl_yfind_impl_Param.l6.v x2 rest (i + 1))))
theorem impl_yfind_impl_Param.l6.v_ev (x2 : ByteArray) (x11 : (List T74)) (y0_0 : ByteArray) (y0_1 : Int) (f_x2 : fitSh .str x2) (f_x11 : fitSh (.list S74) x11) (f_y0_0 : fitSh .str y0_0) (f_y0_1 : fitSh (.int .i64) y0_1)  : ∀ (rest : List T74) (i : Nat)  , x11.drop i = rest → EvF (.pair S74 (.pair .bool .unit)) (fun K j => impl_yfind_impl_Param.l6 K j x2 x11 (x11.length : Int) (i : Int) y0_0 y0_1) (impl_yfind_impl_Param.l6.v x2 rest i ) := by
  have bX : x11.length ≤ 140737488351232 := f_x11.1
  intro rest
  induction rest with
  | nil =>
    intro i hd
    have hz := drop_none hd
    unfold impl_yfind_impl_Param.l6.v
    exact EvF.lp (fun K j => impl_yfind_impl_Param.l6_eq K j x2 x11 (x11.length : Int) (i : Int) y0_0 y0_1) (EvF.no (by omega) (EvF.now (fit_pair (fit_pair ((fit_bytes rfl)) (fit_pair ((fit_wfb rfl)) (fit_unit))) (fit_pair (fit_bool _) (fit_unit)))))
  | cons e rest ih =>
    intro i hd
    obtain ⟨hlt, hd2, hx⟩ := drop_more hd
    have f_e : fitSh S74 e := hx (dflt S74) ▸ fit_rd f_x11 _
    have f_i : fitSh (.int .i64) (i : Int) := fit_len (by omega)
    unfold impl_yfind_impl_Param.l6.v
    refine EvF.lp (fun K j => impl_yfind_impl_Param.l6_eq K j x2 x11 (x11.length : Int) (i : Int) y0_0 y0_1) (EvF.yes (by omega) ?_)
    try rw [hx]
    try rw [wrap_nat (i := i) (by omega)]
    exact (EvF.yes (by first | omega | (simp only [wrap64] at *; omega)) (EvF.bind (impl_yterm_1_1.v_ev _ (f_e)) fun f_t0 => (EvF.ite (fun h0 => (EvF.now (fit_pair (f_e) (fit_pair (fit_bool _) (fit_unit))))) fun h0 => (ih (i + 1)   hd2))))
def impl_yfind_impl_Param.v (a0 : (List T74)) (a1 : ByteArray) : (T74 × (Bool × Unit)) :=
  (impl_yfind_impl_Param.l6.v a1 a0 0)
theorem impl_yfind_impl_Param.v_ev (a0 : (List T74)) (a1 : ByteArray) (f_a0 : fitSh (.list S74) a0) (f_a1 : fitSh .str a1) : EvF (.pair S74 (.pair .bool .unit)) (fun K _ => impl_yfind_impl_Param.f K a0 a1) (impl_yfind_impl_Param.v a0 a1) := by
  unfold impl_yfind_impl_Param.v
  exact EvF.fn (fun k => impl_yfind_impl_Param.f_eq k a0 a1) (EvF.diag (impl_yfind_impl_Param.l6.v_ev a1 a0 (⟨#[]⟩ : ByteArray) 0 (f_a1) (f_a0) ((fit_bytes rfl)) ((fit_wfb rfl))  _ 0    rfl))
def slices_Index_string_string.l6.v (x1 : ByteArray)  : List ByteArray → Nat → Int
  | [], i => (-1)
  | e :: rest, i => (if x1.toList = e.toList then (i : Int) else (slices_Index_string_string.l6.v x1 rest (i + 1)))
theorem slices_Index_string_string.l6.v_ev (x0 : (List ByteArray)) (x1 : ByteArray) (f_x0 : fitSh (.list .str) x0) (f_x1 : fitSh .str x1)  : ∀ (rest : List ByteArray) (i : Nat)  , x0.drop i = rest → EvF (.int .i64) (fun K j => slices_Index_string_string.l6 K j x0 x1 (x0.length : Int) (i : Int)) (slices_Index_string_string.l6.v x1 rest i ) := by
  have bX : x0.length ≤ 140737488351232 := f_x0.1
  intro rest
  induction rest with
  | nil =>
    intro i hd
    have hz := drop_none hd
    unfold slices_Index_string_string.l6.v
    exact EvF.lp (fun K j => slices_Index_string_string.l6_eq K j x0 x1 (x0.length : Int) (i : Int)) (EvF.no (by omega) (EvF.now ((fit_wfb rfl))))
  | cons e rest ih =>
    intro i hd
    obtain ⟨hlt, hd2, hx⟩ := drop_more hd
    have f_e : fitSh .str e := hx (dflt .str) ▸ fit_rd f_x0 _
    have f_i : fitSh (.int .i64) (i : Int) := fit_len (by omega)
    unfold slices_Index_string_string.l6.v
    refine EvF.lp (fun K j => slices_Index_string_string.l6_eq K j x0 x1 (x0.length : Int) (i : Int)) (EvF.yes (by omega) ?_)
    try rw [hx]
    try rw [wrap_nat (i := i) (by omega)]
    exact (EvF.yes (by first | omega | (simp only [wrap64] at *; omega)) (EvF.ite (fun h0 => (EvF.now (f_i))) fun h0 => (ih (i + 1)   hd2)))
def slices_Index_string_string.v (a0 : (List ByteArray)) (a1 : ByteArray) : Int :=
  (slices_Index_string_string.l6.v a1 a0 0)
theorem slices_Index_string_string.v_ev (a0 : (List ByteArray)) (a1 : ByteArray) (f_a0 : fitSh (.list .str) a0) (f_a1 : fitSh .str a1) : EvF (.int .i64) (fun K _ => slices_Index_string_string.f K a0 a1) (slices_Index_string_string.v a0 a1) := by
  unfold slices_Index_string_string.v
  exact EvF.fn (fun k => slices_Index_string_string.f_eq k a0 a1) (EvF.diag (slices_Index_string_string.l6.v_ev a0 a1 (f_a0) (f_a1)  _ 0    rfl))
def impl_yitem.v (a0 : T29) (a1 : ByteArray) : (T22 × (Bool × Unit)) :=
  (let t0 := slices_Index_string_string.v a0.2.2.2.1 a1; (if (t0 : Int) ≥ 0 then (if (t0 : Int) < (a0.2.2.1.length : Int) then ((rd Z22 a0.2.2.1 t0), (true, ())) else ((0, (0, ((⟨#[]⟩ : ByteArray), ((⟨#[]⟩ : ByteArray), ())))), (false, ()))) else ((0, (0, ((⟨#[]⟩ : ByteArray), ((⟨#[]⟩ : ByteArray), ())))), (false, ()))))
theorem impl_yitem.v_ev (a0 : T29) (a1 : ByteArray) (f_a0 : fitSh S29 a0) (f_a1 : fitSh .str a1) : EvF (.pair S22 (.pair .bool .unit)) (fun K _ => impl_yitem.f K a0 a1) (impl_yitem.v a0 a1) := by
  unfold impl_yitem.v
  exact EvF.fn (fun k => impl_yitem.f_eq k a0 a1) (EvF.bind (slices_Index_string_string.v_ev _ _ (f_a0.2.2.2.1) (f_a1)) fun f_t0 => (EvF.ite (fun h0 => (EvF.ite (fun h1 => (EvF.yes (by first | omega | (simp only [wrap64] at *; omega)) (EvF.now (fit_pair ((fit_rd (f_a0.2.2.1) _)) (fit_pair (fit_bool _) (fit_unit)))))) fun h1 => (EvF.now (fit_pair (fit_pair ((fit_wfb rfl)) (fit_pair ((fit_wfb rfl)) (fit_pair ((fit_bytes rfl)) (fit_pair ((fit_bytes rfl)) (fit_unit))))) (fit_pair (fit_bool _) (fit_unit)))))) fun h0 => (EvF.now (fit_pair (fit_pair ((fit_wfb rfl)) (fit_pair ((fit_wfb rfl)) (fit_pair ((fit_bytes rfl)) (fit_pair ((fit_bytes rfl)) (fit_unit))))) (fit_pair (fit_bool _) (fit_unit))))))
def impl_TermHolds_1.v (a0 : ByteArray) (a1 : Int) (a2 : Int) (a3 : Int) (a4 : ByteArray) (a5 : ByteArray) (a6 : (List T22)) (a7 : (List ByteArray)) : (T22 × (Bool × Unit)) :=
  (let t0 := impl_yitem.v (a1, ((a2, (a3, (a4, (a5, ())))), (a6, (a7, ())))) a0; t0)
theorem impl_TermHolds_1.v_ev (a0 : ByteArray) (a1 : Int) (a2 : Int) (a3 : Int) (a4 : ByteArray) (a5 : ByteArray) (a6 : (List T22)) (a7 : (List ByteArray)) (f_a0 : fitSh .str a0) (f_a1 : fitSh (.int .i64) a1) (f_a2 : fitSh (.int .i64) a2) (f_a3 : fitSh (.int .i64) a3) (f_a4 : fitSh .str a4) (f_a5 : fitSh .str a5) (f_a6 : fitSh (.list S22) a6) (f_a7 : fitSh (.list .str) a7) : EvF (.pair S22 (.pair .bool .unit)) (fun K _ => impl_TermHolds_1.f K a0 a1 a2 a3 a4 a5 a6 a7) (impl_TermHolds_1.v a0 a1 a2 a3 a4 a5 a6 a7) := by
  unfold impl_TermHolds_1.v
  exact EvF.fn (fun k => impl_TermHolds_1.f_eq k a0 a1 a2 a3 a4 a5 a6 a7) (EvF.bind (impl_yitem.v_ev _ _ (fit_pair (f_a1) (fit_pair (fit_pair (f_a2) (fit_pair (f_a3) (fit_pair (f_a4) (fit_pair (f_a5) (fit_unit))))) (fit_pair (f_a6) (fit_pair (f_a7) (fit_unit))))) (f_a0)) fun f_t0 => (EvF.now (fit_pair (f_t0.1) (fit_pair (fit_bool _) (fit_unit)))))
def impl_yterm_1.v (a0 : ByteArray) (a1 : (List T74)) (a2 : Int) (a3 : Int) (a4 : Int) (a5 : ByteArray) (a6 : ByteArray) (a7 : (List T22)) (a8 : (List ByteArray)) : (T22 × (Bool × Unit)) :=
  (let t0 := impl_yfind_impl_Param.v a1 a0; (let t1 := impl_TermHolds_1.v a0 a2 a3 a4 a5 a6 a7 a8; (if t0.2.1 = true then (if t1.2.1 = true then (t1.1, ((decide ((t1.1.1 : Int) = t0.1.2.1)), ())) else (t1.1, (false, ()))) else (t1.1, (false, ())))))
theorem impl_yterm_1.v_ev (a0 : ByteArray) (a1 : (List T74)) (a2 : Int) (a3 : Int) (a4 : Int) (a5 : ByteArray) (a6 : ByteArray) (a7 : (List T22)) (a8 : (List ByteArray)) (f_a0 : fitSh .str a0) (f_a1 : fitSh (.list S74) a1) (f_a2 : fitSh (.int .i64) a2) (f_a3 : fitSh (.int .i64) a3) (f_a4 : fitSh (.int .i64) a4) (f_a5 : fitSh .str a5) (f_a6 : fitSh .str a6) (f_a7 : fitSh (.list S22) a7) (f_a8 : fitSh (.list .str) a8) : EvF (.pair S22 (.pair .bool .unit)) (fun K _ => impl_yterm_1.f K a0 a1 a2 a3 a4 a5 a6 a7 a8) (impl_yterm_1.v a0 a1 a2 a3 a4 a5 a6 a7 a8) := by
  unfold impl_yterm_1.v
  exact EvF.fn (fun k => impl_yterm_1.f_eq k a0 a1 a2 a3 a4 a5 a6 a7 a8) (EvF.bind (impl_yfind_impl_Param.v_ev _ _ (f_a1) (f_a0)) fun f_t0 => (EvF.bind (impl_TermHolds_1.v_ev _ _ _ _ _ _ _ _ (f_a0) (f_a2) (f_a3) (f_a4) (f_a5) (f_a6) (f_a7) (f_a8)) fun f_t1 => (EvF.ite (fun h0 => (EvF.ite (fun h1 => (EvF.now (fit_pair (f_t1.1) (fit_pair (fit_bool _) (fit_unit))))) fun h1 => (EvF.now (fit_pair (f_t1.1) (fit_pair (fit_bool _) (fit_unit)))))) fun h0 => (EvF.now (fit_pair (f_t1.1) (fit_pair (fit_bool _) (fit_unit)))))))
def impl_CompareAtoms.v (a0 : T22) (a1 : T22) : Int :=
  (let t0 := impl_GoodAtom.v a0; (if t0 = true then (let t1 := impl_GoodAtom.v a1; (if t1 = true then (impl_ycmpAtom.v a0 a1) else (-2))) else (-2)))
theorem impl_CompareAtoms.v_ev (a0 : T22) (a1 : T22) (f_a0 : fitSh S22 a0) (f_a1 : fitSh S22 a1) : EvF (.int .i64) (fun K _ => impl_CompareAtoms.f K a0 a1) (impl_CompareAtoms.v a0 a1) := by
  unfold impl_CompareAtoms.v
  exact EvF.fn (fun k => impl_CompareAtoms.f_eq k a0 a1) (EvF.bind (impl_GoodAtom.v_ev _ (f_a0)) fun f_t0 => (EvF.ite (fun h0 => (EvF.bind (impl_GoodAtom.v_ev _ (f_a1)) fun f_t1 => (EvF.ite (fun h1 => (EvF.bind (impl_ycmpAtom.v_ev _ _ (f_a0) (f_a1)) fun f_t2 => (EvF.now (f_t2)))) fun h1 => (EvF.now ((fit_wfb rfl)))))) fun h0 => (EvF.now ((fit_wfb rfl)))))
def impl_ysure.v (a0 : Bool) : Int :=
  (if a0 = true then 1 else 0)
theorem impl_ysure.v_ev (a0 : Bool) (f_a0 : fitSh .bool a0) : EvF (.int .i64) (fun K _ => impl_ysure.f K a0) (impl_ysure.v a0) := by
  unfold impl_ysure.v
  exact EvF.fn (fun k => impl_ysure.f_eq k a0) (EvF.ite (fun h0 => (EvF.now ((fit_wfb rfl)))) fun h0 => (EvF.now ((fit_wfb rfl))))
def impl_yterm.v (a0 : T24) (a1 : (List T74)) (a2 : Int) (a3 : Int) (a4 : Int) (a5 : ByteArray) (a6 : ByteArray) (a7 : (List T22)) (a8 : (List ByteArray)) : Int :=
  (let t0 := impl_yterm_1.v a0.1 a1 a2 a3 a4 a5 a6 a7 a8; (if a0.2.2.1.toList = (⟨#[]⟩ : ByteArray).toList then (if t0.2.1 = true then (let t1 := impl_CompareAtoms.v t0.1 a0.2.2.2.1; (if (a0.2.1 : Int) = 1 then (impl_ysure.v (decide ((t1 : Int) = 0))) else (if (a0.2.1 : Int) = 2 then (impl_ysure.v (decide ((t1 : Int) = (-1)))) else (if (a0.2.1 : Int) = 3 then (if (t1 : Int) = (-1) then (impl_ysure.v true) else (impl_ysure.v (decide ((t1 : Int) = 0)))) else (let t2 := impl_AddrIn.v t0.1 a0.2.2.2.1; (impl_ysure.v t2)))))) else 2) else (let t1 := impl_yterm_1.v a0.2.2.1 a1 a2 a3 a4 a5 a6 a7 a8; (if t0.2.1 = true then (if t1.2.1 = true then (let t2 := impl_CompareAtoms.v t0.1 t1.1; (if (a0.2.1 : Int) = 1 then (impl_ysure.v (decide ((t2 : Int) = 0))) else (if (a0.2.1 : Int) = 2 then (impl_ysure.v (decide ((t2 : Int) = (-1)))) else (if (a0.2.1 : Int) = 3 then (if (t2 : Int) = (-1) then (impl_ysure.v true) else (impl_ysure.v (decide ((t2 : Int) = 0)))) else (let t3 := impl_AddrIn.v t0.1 t1.1; (impl_ysure.v t3)))))) else 2) else 2))))
theorem impl_yterm.v_ev (a0 : T24) (a1 : (List T74)) (a2 : Int) (a3 : Int) (a4 : Int) (a5 : ByteArray) (a6 : ByteArray) (a7 : (List T22)) (a8 : (List ByteArray)) (f_a0 : fitSh S24 a0) (f_a1 : fitSh (.list S74) a1) (f_a2 : fitSh (.int .i64) a2) (f_a3 : fitSh (.int .i64) a3) (f_a4 : fitSh (.int .i64) a4) (f_a5 : fitSh .str a5) (f_a6 : fitSh .str a6) (f_a7 : fitSh (.list S22) a7) (f_a8 : fitSh (.list .str) a8) : EvF (.int .i64) (fun K _ => impl_yterm.f K a0 a1 a2 a3 a4 a5 a6 a7 a8) (impl_yterm.v a0 a1 a2 a3 a4 a5 a6 a7 a8) := by
  unfold impl_yterm.v
  exact EvF.fn (fun k => impl_yterm.f_eq k a0 a1 a2 a3 a4 a5 a6 a7 a8) (EvF.bind (impl_yterm_1.v_ev _ _ _ _ _ _ _ _ _ (f_a0.1) (f_a1) (f_a2) (f_a3) (f_a4) (f_a5) (f_a6) (f_a7) (f_a8)) fun f_t0 => (EvF.ite (fun h0 => (EvF.ite (fun h1 => (EvF.bind (impl_CompareAtoms.v_ev _ _ (f_t0.1) (f_a0.2.2.2.1)) fun f_t1 => (EvF.ite (fun h2 => (EvF.bind (impl_ysure.v_ev _ (fit_bool _)) fun f_t2 => (EvF.now (f_t2)))) fun h2 => (EvF.ite (fun h3 => (EvF.bind (impl_ysure.v_ev _ (fit_bool _)) fun f_t2 => (EvF.now (f_t2)))) fun h3 => (EvF.ite (fun h4 => (EvF.ite (fun h5 => (EvF.bind (impl_ysure.v_ev _ (fit_bool _)) fun f_t2 => (EvF.now (f_t2)))) fun h5 => (EvF.bind (impl_ysure.v_ev _ (fit_bool _)) fun f_t2 => (EvF.now (f_t2))))) fun h4 => (EvF.bind (impl_AddrIn.v_ev _ _ (f_t0.1) (f_a0.2.2.2.1)) fun f_t2 => (EvF.bind (impl_ysure.v_ev _ (fit_bool _)) fun f_t3 => (EvF.now (f_t3))))))))) fun h1 => (EvF.now ((fit_wfb rfl))))) fun h0 => (EvF.bind (impl_yterm_1.v_ev _ _ _ _ _ _ _ _ _ (f_a0.2.2.1) (f_a1) (f_a2) (f_a3) (f_a4) (f_a5) (f_a6) (f_a7) (f_a8)) fun f_t1 => (EvF.ite (fun h1 => (EvF.ite (fun h2 => (EvF.bind (impl_CompareAtoms.v_ev _ _ (f_t0.1) (f_t1.1)) fun f_t2 => (EvF.ite (fun h3 => (EvF.bind (impl_ysure.v_ev _ (fit_bool _)) fun f_t3 => (EvF.now (f_t3)))) fun h3 => (EvF.ite (fun h4 => (EvF.bind (impl_ysure.v_ev _ (fit_bool _)) fun f_t3 => (EvF.now (f_t3)))) fun h4 => (EvF.ite (fun h5 => (EvF.ite (fun h6 => (EvF.bind (impl_ysure.v_ev _ (fit_bool _)) fun f_t3 => (EvF.now (f_t3)))) fun h6 => (EvF.bind (impl_ysure.v_ev _ (fit_bool _)) fun f_t3 => (EvF.now (f_t3))))) fun h5 => (EvF.bind (impl_AddrIn.v_ev _ _ (f_t0.1) (f_t1.1)) fun f_t3 => (EvF.bind (impl_ysure.v_ev _ (fit_bool _)) fun f_t4 => (EvF.now (f_t4))))))))) fun h2 => (EvF.now ((fit_wfb rfl))))) fun h1 => (EvF.now ((fit_wfb rfl)))))))
def impl_TermHolds.v (a0 : T24) (a1 : (List T74)) (a2 : T29) : Int :=
  (let t0 := impl_ygoodRecord.v a2; (if t0 = true then (if (a0.2.1 : Int) < 1 then (-1) else (if (a0.2.1 : Int) > 4 then (-1) else (if a0.2.2.1.toList = (⟨#[]⟩ : ByteArray).toList then (impl_yterm.v a0 a1 a2.1 a2.2.1.1 a2.2.1.2.1 a2.2.1.2.2.1 a2.2.1.2.2.2.1 a2.2.2.1 a2.2.2.2.1) else (let t1 := impl_yzeroAtom.v a0.2.2.2.1; (if t1 = true then (impl_yterm.v a0 a1 a2.1 a2.2.1.1 a2.2.1.2.1 a2.2.1.2.2.1 a2.2.1.2.2.2.1 a2.2.2.1 a2.2.2.2.1) else (-1)))))) else (-1)))
theorem impl_TermHolds.v_ev (a0 : T24) (a1 : (List T74)) (a2 : T29) (f_a0 : fitSh S24 a0) (f_a1 : fitSh (.list S74) a1) (f_a2 : fitSh S29 a2) : EvF (.int .i64) (fun K _ => impl_TermHolds.f K a0 a1 a2) (impl_TermHolds.v a0 a1 a2) := by
  unfold impl_TermHolds.v
  exact EvF.fn (fun k => impl_TermHolds.f_eq k a0 a1 a2) (EvF.bind (impl_ygoodRecord.v_ev _ (f_a2)) fun f_t0 => (EvF.ite (fun h0 => (EvF.ite (fun h1 => (EvF.now ((fit_wfb rfl)))) fun h1 => (EvF.ite (fun h2 => (EvF.now ((fit_wfb rfl)))) fun h2 => (EvF.ite (fun h3 => (EvF.bind (impl_yterm.v_ev _ _ _ _ _ _ _ _ _ (f_a0) (f_a1) (f_a2.1) (f_a2.2.1.1) (f_a2.2.1.2.1) (f_a2.2.1.2.2.1) (f_a2.2.1.2.2.2.1) (f_a2.2.2.1) (f_a2.2.2.2.1)) fun f_t1 => (EvF.now (f_t1)))) fun h3 => (EvF.bind (impl_yzeroAtom.v_ev _ (f_a0.2.2.2.1)) fun f_t1 => (EvF.ite (fun h4 => (EvF.bind (impl_yterm.v_ev _ _ _ _ _ _ _ _ _ (f_a0) (f_a1) (f_a2.1) (f_a2.2.1.1) (f_a2.2.1.2.1) (f_a2.2.1.2.2.1) (f_a2.2.1.2.2.2.1) (f_a2.2.2.1) (f_a2.2.2.2.1)) fun f_t2 => (EvF.now (f_t2)))) fun h4 => (EvF.now ((fit_wfb rfl))))))))) fun h0 => (EvF.now ((fit_wfb rfl)))))

theorem param_same (l : List T74) (n : ByteArray) : impl_yfind_impl_Param.v l n = spec_l6Param.v l n := by
  have h : ∀ (rest : List T74) (i : Nat), impl_yfind_impl_Param.l6.v n rest i = spec_l6Param.l6.v n rest i := by
    intro rest
    induction rest with
    | nil => intro i; rfl
    | cons e rest ih => intro i; unfold impl_yfind_impl_Param.l6.v spec_l6Param.l6.v impl_yterm_1_1.v; rw [ih]
  exact h _ _
theorem item_same (v : T29) (n : ByteArray) (hp : v.2.2.2.1.length ≤ v.2.2.1.length) : impl_yitem.v v n = spec_l6Field.v v n := by
  have h : ∀ (rest : List ByteArray) (i : Nat), i + rest.length ≤ v.2.2.1.length → spec_l6Field.l6.v n v.2.2.1 rest i =
      (if slices_Index_string_string.l6.v n rest i ≥ 0 then (if slices_Index_string_string.l6.v n rest i < (v.2.2.1.length : Int) then ((rd Z22 v.2.2.1 (slices_Index_string_string.l6.v n rest i)), (true, ())) else ((0, (0, ((⟨#[]⟩ : ByteArray), ((⟨#[]⟩ : ByteArray), ())))), (false, ()))) else ((0, (0, ((⟨#[]⟩ : ByteArray), ((⟨#[]⟩ : ByteArray), ())))), (false, ()))) := by
    intro rest
    induction rest with
    | nil => intro i _; unfold spec_l6Field.l6.v slices_Index_string_string.l6.v; rw [if_neg (by omega)]
    | cons e rest ih =>
      intro i hi
      rw [List.length_cons] at hi
      unfold spec_l6Field.l6.v slices_Index_string_string.l6.v
      by_cases c : e.toList = n.toList
      · simp only [if_pos c, if_pos c.symm]; rw [if_pos (by omega), if_pos (by omega)]
      · simp only [if_neg c, if_neg (fun q : n.toList = e.toList => c q.symm)]; exact ih (i + 1) (by omega)
  unfold spec_l6Field.v
  rw [h _ 0 (by omega)]
  rfl
theorem side_same (ps : List T74) (v : T29) (n : ByteArray) (hp : v.2.2.2.1.length ≤ v.2.2.1.length) : impl_yterm_1.v n ps v.1 v.2.1.1 v.2.1.2.1 v.2.1.2.2.1 v.2.1.2.2.2.1 v.2.2.1 v.2.2.2.1 = spec_l6Value.v ps v n := by
  unfold impl_yterm_1.v spec_l6Value.v impl_TermHolds_1.v
  rw [param_same, item_same _ _ (by exact hp)]
theorem compare_same (a b : T22) : impl_CompareAtoms.v a b = spec_CompareAtoms.v a b := by
  unfold impl_CompareAtoms.v spec_CompareAtoms.v; rw [cmpAtom_same]
theorem sure_same (b : Bool) : impl_ysure.v b = spec_l3Said.v b := rfl
theorem term_same (t : T24) (ps : List T74) (v : T29) (hp : v.2.2.2.1.length ≤ v.2.2.1.length) : impl_yterm.v t ps v.1 v.2.1.1 v.2.1.2.1 v.2.1.2.2.1 v.2.1.2.2.2.1 v.2.2.1 v.2.2.2.1 = spec_l6Term.v t ps v := by
  unfold impl_yterm.v spec_l6Term.v
  simp only [side_same _ _ _ hp, compare_same, sure_same]

def spec_l6GoodTerm.v (a0 : T24) (a1 : (List T74)) : Bool :=
  (let t0 := spec_l6Param.v a1 a0.1; (if t0.2.1 = true then (if a0.2.2.1.toList = (⟨#[]⟩ : ByteArray).toList then (let t1 := spec_GoodAtom.v a0.2.2.2.1; (if t1 = true then (if (a0.2.2.2.1.1 : Int) = t0.1.2.1 then (if (a0.2.1 : Int) = 1 then true else (if (a0.2.1 : Int) = 2 then (if (a0.2.1 : Int) = 2 then (if (a0.2.2.2.1.1 : Int) = 2 then true else (if (a0.2.2.2.1.1 : Int) = 3 then true else (if (a0.2.2.2.1.1 : Int) = 5 then true else (decide ((a0.2.2.2.1.1 : Int) = 7))))) else (if (a0.2.1 : Int) = 4 then (decide ((a0.2.2.2.1.1 : Int) = 6)) else false)) else (if (a0.2.1 : Int) = 3 then (if (a0.2.2.2.1.1 : Int) = 2 then true else (if (a0.2.2.2.1.1 : Int) = 3 then true else (if (a0.2.2.2.1.1 : Int) = 5 then true else (decide ((a0.2.2.2.1.1 : Int) = 7))))) else (if (a0.2.1 : Int) = 4 then (decide ((a0.2.2.2.1.1 : Int) = 6)) else false)))) else false) else false)) else (let t1 := spec_l6Param.v a1 a0.2.2.1; (if t1.2.1 = true then (if (eqD S22 (a0.2.2.2.1 : T22) ((0, (0, ((⟨#[]⟩ : ByteArray), ((⟨#[]⟩ : ByteArray), ())))) : T22)) = true then (if (t1.1.2.1 : Int) = t0.1.2.1 then (if (a0.2.1 : Int) = 1 then true else (if (a0.2.1 : Int) = 2 then (if (a0.2.1 : Int) = 2 then (if (t1.1.2.1 : Int) = 2 then true else (if (t1.1.2.1 : Int) = 3 then true else (if (t1.1.2.1 : Int) = 5 then true else (decide ((t1.1.2.1 : Int) = 7))))) else (if (a0.2.1 : Int) = 4 then (decide ((t1.1.2.1 : Int) = 6)) else false)) else (if (a0.2.1 : Int) = 3 then (if (t1.1.2.1 : Int) = 2 then true else (if (t1.1.2.1 : Int) = 3 then true else (if (t1.1.2.1 : Int) = 5 then true else (decide ((t1.1.2.1 : Int) = 7))))) else (if (a0.2.1 : Int) = 4 then (decide ((t1.1.2.1 : Int) = 6)) else false)))) else false) else false) else false))) else false))
theorem spec_l6GoodTerm.v_ev (a0 : T24) (a1 : (List T74)) (f_a0 : fitSh S24 a0) (f_a1 : fitSh (.list S74) a1) : EvF .bool (fun K _ => spec_l6GoodTerm.f K a0 a1) (spec_l6GoodTerm.v a0 a1) := by
  unfold spec_l6GoodTerm.v
  exact EvF.fn (fun k => spec_l6GoodTerm.f_eq k a0 a1) (EvF.bind (spec_l6Param.v_ev _ _ (f_a1) (f_a0.1)) fun f_t0 => (EvF.ite (fun h0 => (EvF.ite (fun h1 => (EvF.bind (spec_GoodAtom.v_ev _ (f_a0.2.2.2.1)) fun f_t1 => (EvF.ite (fun h2 => (EvF.ite (fun h3 => (EvF.ite (fun h4 => (EvF.now (fit_bool _))) fun h4 => (EvF.ite (fun h5 => (EvF.ite (fun h6 => (EvF.ite (fun h7 => (EvF.now (fit_bool _))) fun h7 => (EvF.ite (fun h8 => (EvF.now (fit_bool _))) fun h8 => (EvF.ite (fun h9 => (EvF.now (fit_bool _))) fun h9 => (EvF.now (fit_bool _)))))) fun h6 => (EvF.ite (fun h7 => (EvF.now (fit_bool _))) fun h7 => (EvF.now (fit_bool _))))) fun h5 => (EvF.ite (fun h6 => (EvF.ite (fun h7 => (EvF.now (fit_bool _))) fun h7 => (EvF.ite (fun h8 => (EvF.now (fit_bool _))) fun h8 => (EvF.ite (fun h9 => (EvF.now (fit_bool _))) fun h9 => (EvF.now (fit_bool _)))))) fun h6 => (EvF.ite (fun h7 => (EvF.now (fit_bool _))) fun h7 => (EvF.now (fit_bool _))))))) fun h3 => (EvF.now (fit_bool _)))) fun h2 => (EvF.now (fit_bool _))))) fun h1 => (EvF.bind (spec_l6Param.v_ev _ _ (f_a1) (f_a0.2.2.1)) fun f_t1 => (EvF.ite (fun h2 => (EvF.ite (fun h3 => (EvF.ite (fun h4 => (EvF.ite (fun h5 => (EvF.now (fit_bool _))) fun h5 => (EvF.ite (fun h6 => (EvF.ite (fun h7 => (EvF.ite (fun h8 => (EvF.now (fit_bool _))) fun h8 => (EvF.ite (fun h9 => (EvF.now (fit_bool _))) fun h9 => (EvF.ite (fun h10 => (EvF.now (fit_bool _))) fun h10 => (EvF.now (fit_bool _)))))) fun h7 => (EvF.ite (fun h8 => (EvF.now (fit_bool _))) fun h8 => (EvF.now (fit_bool _))))) fun h6 => (EvF.ite (fun h7 => (EvF.ite (fun h8 => (EvF.now (fit_bool _))) fun h8 => (EvF.ite (fun h9 => (EvF.now (fit_bool _))) fun h9 => (EvF.ite (fun h10 => (EvF.now (fit_bool _))) fun h10 => (EvF.now (fit_bool _)))))) fun h7 => (EvF.ite (fun h8 => (EvF.now (fit_bool _))) fun h8 => (EvF.now (fit_bool _))))))) fun h4 => (EvF.now (fit_bool _)))) fun h3 => (EvF.now (fit_bool _)))) fun h2 => (EvF.now (fit_bool _)))))) fun h0 => (EvF.now (fit_bool _))))
def spec_GoodCaveat.l37.v (y0_1 : (List T74))  : List T24 → Nat → Bool
  | [], i => true
  | e :: rest, i => (let t0 := spec_l6GoodTerm.v e y0_1; (if t0 = true then (spec_GoodCaveat.l37.v y0_1 rest (i + 1)) else false))
theorem spec_GoodCaveat.l37.v_ev (x86 : (List T24)) (y0_0 : ByteArray) (y0_1 : (List T74)) (f_x86 : fitSh (.list S24) x86) (f_y0_0 : fitSh .str y0_0) (f_y0_1 : fitSh (.list S74) y0_1)  : ∀ (rest : List T24) (i : Nat)  , x86.drop i = rest → EvF .bool (fun K j => spec_GoodCaveat.l37 K j x86 (x86.length : Int) (i : Int) y0_0 y0_1 x86) (spec_GoodCaveat.l37.v y0_1 rest i ) := by
  have bX : x86.length ≤ 140737488351232 := f_x86.1
  intro rest
  induction rest with
  | nil =>
    intro i hd
    have hz := drop_none hd
    unfold spec_GoodCaveat.l37.v
    exact EvF.lp (fun K j => spec_GoodCaveat.l37_eq K j x86 (x86.length : Int) (i : Int) y0_0 y0_1 x86) (EvF.no (by omega) (EvF.now (fit_bool _)))
  | cons e rest ih =>
    intro i hd
    obtain ⟨hlt, hd2, hx⟩ := drop_more hd
    have f_e : fitSh S24 e := hx (dflt S24) ▸ fit_rd f_x86 _
    have f_i : fitSh (.int .i64) (i : Int) := fit_len (by omega)
    unfold spec_GoodCaveat.l37.v
    refine EvF.lp (fun K j => spec_GoodCaveat.l37_eq K j x86 (x86.length : Int) (i : Int) y0_0 y0_1 x86) (EvF.yes (by omega) ?_)
    try rw [hx]
    try rw [wrap_nat (i := i) (by omega)]
    exact (EvF.yes (by first | omega | (simp only [wrap64] at *; omega)) (EvF.bind (spec_l6GoodTerm.v_ev _ _ (f_e) (f_y0_1)) fun f_t0 => (EvF.ite (fun h0 => (ih (i + 1)   hd2)) fun h0 => (EvF.now (fit_bool _)))))
def spec_GoodCaveat.l14.v (x36 : (List T74)) (y0_2 : (List T24))  : List T74 → Nat → Bool
  | [], i => (spec_GoodCaveat.l37.v x36 y0_2 0)
  | e :: rest, i => (let t0 := spec_GoodName.v e.1; (if t0 = true then (if e.1.toList = (⟨#[116, 114, 117, 101]⟩ : ByteArray).toList then false else (if e.1.toList = (⟨#[102, 97, 108, 115, 101]⟩ : ByteArray).toList then false else (if (e.2.1 : Int) < 1 then false else (if (e.2.1 : Int) > 7 then false else (if ((i : Int) : Int) > 0 then (let t1 := spec_l1CmpText.v (rd Z74 x36 (wrap64 ((i : Int) - 1))).1 e.1; (if (t1 : Int) ≥ 0 then false else (spec_GoodCaveat.l14.v x36 y0_2 rest (i + 1)))) else (spec_GoodCaveat.l14.v x36 y0_2 rest (i + 1))))))) else false))
theorem spec_GoodCaveat.l14.v_ev (x36 : (List T74)) (y0_0 : ByteArray) (y0_2 : (List T24)) (f_x36 : fitSh (.list S74) x36) (f_y0_0 : fitSh .str y0_0) (f_y0_2 : fitSh (.list S24) y0_2)  : ∀ (rest : List T74) (i : Nat)  , x36.drop i = rest → EvF .bool (fun K j => spec_GoodCaveat.l14 K j x36 (x36.length : Int) (i : Int) y0_0 x36 y0_2) (spec_GoodCaveat.l14.v x36 y0_2 rest i ) := by
  have bX : x36.length ≤ 140737488351232 := f_x36.1
  intro rest
  induction rest with
  | nil =>
    intro i hd
    have hz := drop_none hd
    unfold spec_GoodCaveat.l14.v
    exact EvF.lp (fun K j => spec_GoodCaveat.l14_eq K j x36 (x36.length : Int) (i : Int) y0_0 x36 y0_2) (EvF.no (by omega) (spec_GoodCaveat.l37.v_ev y0_2 y0_0 x36 (f_y0_2) (f_y0_0) (f_x36)  _ 0    rfl))
  | cons e rest ih =>
    intro i hd
    obtain ⟨hlt, hd2, hx⟩ := drop_more hd
    have f_e : fitSh S74 e := hx (dflt S74) ▸ fit_rd f_x36 _
    have f_i : fitSh (.int .i64) (i : Int) := fit_len (by omega)
    unfold spec_GoodCaveat.l14.v
    refine EvF.lp (fun K j => spec_GoodCaveat.l14_eq K j x36 (x36.length : Int) (i : Int) y0_0 x36 y0_2) (EvF.yes (by omega) ?_)
    try rw [hx]
    try rw [wrap_nat (i := i) (by omega)]
    exact (EvF.yes (by first | omega | (simp only [wrap64] at *; omega)) (EvF.bind (spec_GoodName.v_ev _ (f_e.1)) fun f_t0 => (EvF.ite (fun h0 => (EvF.ite (fun h1 => (EvF.now (fit_bool _))) fun h1 => (EvF.ite (fun h2 => (EvF.now (fit_bool _))) fun h2 => (EvF.ite (fun h3 => (EvF.now (fit_bool _))) fun h3 => (EvF.ite (fun h4 => (EvF.now (fit_bool _))) fun h4 => (EvF.ite (fun h5 => (EvF.yes (by first | omega | (simp only [wrap64] at *; omega)) (EvF.bind (spec_l1CmpText.v_ev _ _ (((fit_rd (f_x36) _)).1) (f_e.1)) fun f_t1 => (EvF.ite (fun h6 => (EvF.now (fit_bool _))) fun h6 => (ih (i + 1)   hd2))))) fun h5 => (ih (i + 1)   hd2))))))) fun h0 => (EvF.now (fit_bool _)))))
def spec_GoodCaveat.v (a0 : T49) : Bool :=
  (let t0 := spec_GoodName.v a0.1; (if t0 = true then (if ((a0.2.1.length : Int) : Int) < 1 then false else (if ((a0.2.1.length : Int) : Int) > 6 then false else (if ((a0.2.2.1.length : Int) : Int) < 1 then false else (if ((a0.2.2.1.length : Int) : Int) > 6 then false else (spec_GoodCaveat.l14.v a0.2.1 a0.2.2.1 a0.2.1 0))))) else false))
theorem spec_GoodCaveat.v_ev (a0 : T49) (f_a0 : fitSh S49 a0) : EvF .bool (fun K _ => spec_GoodCaveat.f K a0) (spec_GoodCaveat.v a0) := by
  unfold spec_GoodCaveat.v
  exact EvF.fn (fun k => spec_GoodCaveat.f_eq k a0) (EvF.bind (spec_GoodName.v_ev _ (f_a0.1)) fun f_t0 => (EvF.ite (fun h0 => (EvF.ite (fun h1 => (EvF.now (fit_bool _))) fun h1 => (EvF.ite (fun h2 => (EvF.now (fit_bool _))) fun h2 => (EvF.ite (fun h3 => (EvF.now (fit_bool _))) fun h3 => (EvF.ite (fun h4 => (EvF.now (fit_bool _))) fun h4 => (EvF.diag (spec_GoodCaveat.l14.v_ev a0.2.1 a0.1 a0.2.2.1 (f_a0.2.1) (f_a0.1) (f_a0.2.2.1)  _ 0    rfl))))))) fun h0 => (EvF.now (fit_bool _))))

def impl_Caveat_yparam_1.v (a0 : T74) : ByteArray :=
  a0.1
theorem impl_Caveat_yparam_1.v_ev (a0 : T74) (f_a0 : fitSh S74 a0) : EvF .str (fun K _ => impl_Caveat_yparam_1.f K a0) (impl_Caveat_yparam_1.v a0) := by
  unfold impl_Caveat_yparam_1.v
  exact EvF.fn (fun k => impl_Caveat_yparam_1.f_eq k a0) (EvF.now (f_a0.1))
def impl_yfind_impl_Param_v1.l6.v (x2 : ByteArray)  : List T74 → Nat → (T74 × (Bool × Unit))
  | [], i => (((⟨#[]⟩ : ByteArray), (0, ())), (false, ()))
  | e :: rest, i => (let t0 := impl_Caveat_yparam_1.v e; (if t0.toList = x2.toList then (e, (true, ())) else (impl_yfind_impl_Param_v1.l6.v x2 rest (i + 1))))
theorem impl_yfind_impl_Param_v1.l6.v_ev (x2 : ByteArray) (x11 : (List T74)) (y0_0 : ByteArray) (y0_1 : Int) (f_x2 : fitSh .str x2) (f_x11 : fitSh (.list S74) x11) (f_y0_0 : fitSh .str y0_0) (f_y0_1 : fitSh (.int .i64) y0_1)  : ∀ (rest : List T74) (i : Nat)  , x11.drop i = rest → EvF (.pair S74 (.pair .bool .unit)) (fun K j => impl_yfind_impl_Param_v1.l6 K j x2 x11 (x11.length : Int) (i : Int) y0_0 y0_1) (impl_yfind_impl_Param_v1.l6.v x2 rest i ) := by
  have bX : x11.length ≤ 140737488351232 := f_x11.1
  intro rest
  induction rest with
  | nil =>
    intro i hd
    have hz := drop_none hd
    unfold impl_yfind_impl_Param_v1.l6.v
    exact EvF.lp (fun K j => impl_yfind_impl_Param_v1.l6_eq K j x2 x11 (x11.length : Int) (i : Int) y0_0 y0_1) (EvF.no (by omega) (EvF.now (fit_pair (fit_pair ((fit_bytes rfl)) (fit_pair ((fit_wfb rfl)) (fit_unit))) (fit_pair (fit_bool _) (fit_unit)))))
  | cons e rest ih =>
    intro i hd
    obtain ⟨hlt, hd2, hx⟩ := drop_more hd
    have f_e : fitSh S74 e := hx (dflt S74) ▸ fit_rd f_x11 _
    have f_i : fitSh (.int .i64) (i : Int) := fit_len (by omega)
    unfold impl_yfind_impl_Param_v1.l6.v
    refine EvF.lp (fun K j => impl_yfind_impl_Param_v1.l6_eq K j x2 x11 (x11.length : Int) (i : Int) y0_0 y0_1) (EvF.yes (by omega) ?_)
    try rw [hx]
    try rw [wrap_nat (i := i) (by omega)]
    exact (EvF.yes (by first | omega | (simp only [wrap64] at *; omega)) (EvF.bind (impl_Caveat_yparam_1.v_ev _ (f_e)) fun f_t0 => (EvF.ite (fun h0 => (EvF.now (fit_pair (f_e) (fit_pair (fit_bool _) (fit_unit))))) fun h0 => (ih (i + 1)   hd2))))
def impl_yfind_impl_Param_v1.v (a0 : (List T74)) (a1 : ByteArray) : (T74 × (Bool × Unit)) :=
  (impl_yfind_impl_Param_v1.l6.v a1 a0 0)
theorem impl_yfind_impl_Param_v1.v_ev (a0 : (List T74)) (a1 : ByteArray) (f_a0 : fitSh (.list S74) a0) (f_a1 : fitSh .str a1) : EvF (.pair S74 (.pair .bool .unit)) (fun K _ => impl_yfind_impl_Param_v1.f K a0 a1) (impl_yfind_impl_Param_v1.v a0 a1) := by
  unfold impl_yfind_impl_Param_v1.v
  exact EvF.fn (fun k => impl_yfind_impl_Param_v1.f_eq k a0 a1) (EvF.diag (impl_yfind_impl_Param_v1.l6.v_ev a1 a0 (⟨#[]⟩ : ByteArray) 0 (f_a1) (f_a0) ((fit_bytes rfl)) ((fit_wfb rfl))  _ 0    rfl))
def impl_Caveat_yparam.v (a0 : T49) (a1 : ByteArray) : (T74 × (Bool × Unit)) :=
  (let t0 := impl_yfind_impl_Param_v1.v a0.2.1 a1; t0)
theorem impl_Caveat_yparam.v_ev (a0 : T49) (a1 : ByteArray) (f_a0 : fitSh S49 a0) (f_a1 : fitSh .str a1) : EvF (.pair S74 (.pair .bool .unit)) (fun K _ => impl_Caveat_yparam.f K a0 a1) (impl_Caveat_yparam.v a0 a1) := by
  unfold impl_Caveat_yparam.v
  exact EvF.fn (fun k => impl_Caveat_yparam.f_eq k a0 a1) (EvF.bind (impl_yfind_impl_Param_v1.v_ev _ _ (f_a0.2.1) (f_a1)) fun f_t0 => (EvF.now (fit_pair (f_t0.1) (fit_pair (fit_bool _) (fit_unit)))))
def impl_yopFits.v (a0 : Int) (a1 : Int) : Bool :=
  (if (a0 : Int) = 1 then true else (if (a0 : Int) = 2 then (if (a0 : Int) = 2 then (if (a1 : Int) = 2 then true else (if (a1 : Int) = 3 then true else (if (a1 : Int) = 5 then true else (decide ((a1 : Int) = 7))))) else (if (a0 : Int) = 4 then (decide ((a1 : Int) = 6)) else false)) else (if (a0 : Int) = 3 then (if (a1 : Int) = 2 then true else (if (a1 : Int) = 3 then true else (if (a1 : Int) = 5 then true else (decide ((a1 : Int) = 7))))) else (if (a0 : Int) = 4 then (decide ((a1 : Int) = 6)) else false))))
theorem impl_yopFits.v_ev (a0 : Int) (a1 : Int) (f_a0 : fitSh (.int .i64) a0) (f_a1 : fitSh (.int .i64) a1) : EvF .bool (fun K _ => impl_yopFits.f K a0 a1) (impl_yopFits.v a0 a1) := by
  unfold impl_yopFits.v
  exact EvF.fn (fun k => impl_yopFits.f_eq k a0 a1) (EvF.ite (fun h0 => (EvF.now (fit_bool _))) fun h0 => (EvF.ite (fun h1 => (EvF.ite (fun h2 => (EvF.ite (fun h3 => (EvF.now (fit_bool _))) fun h3 => (EvF.ite (fun h4 => (EvF.now (fit_bool _))) fun h4 => (EvF.ite (fun h5 => (EvF.now (fit_bool _))) fun h5 => (EvF.now (fit_bool _)))))) fun h2 => (EvF.ite (fun h3 => (EvF.now (fit_bool _))) fun h3 => (EvF.now (fit_bool _))))) fun h1 => (EvF.ite (fun h2 => (EvF.ite (fun h3 => (EvF.now (fit_bool _))) fun h3 => (EvF.ite (fun h4 => (EvF.now (fit_bool _))) fun h4 => (EvF.ite (fun h5 => (EvF.now (fit_bool _))) fun h5 => (EvF.now (fit_bool _)))))) fun h2 => (EvF.ite (fun h3 => (EvF.now (fit_bool _))) fun h3 => (EvF.now (fit_bool _))))))
def impl_GoodCaveat.l37.v (x90 : (List T24)) (y0_0 : ByteArray) (y0_1 : (List T74))  : List T24 → Nat → Bool
  | [], i => true
  | e :: rest, i => (let t0 := impl_Caveat_yparam.v (y0_0, (y0_1, (x90, ()))) e.1; (if t0.2.1 = true then (if e.2.2.1.toList = (⟨#[]⟩ : ByteArray).toList then (let t1 := impl_GoodAtom.v e.2.2.2.1; (if t1 = true then (if (e.2.2.2.1.1 : Int) = t0.1.2.1 then (let t2 := impl_yopFits.v e.2.1 e.2.2.2.1.1; (if t2 = true then (impl_GoodCaveat.l37.v x90 y0_0 y0_1 rest (i + 1)) else false)) else false) else false)) else (let t1 := impl_Caveat_yparam.v (y0_0, (y0_1, (x90, ()))) e.2.2.1; (if t1.2.1 = true then (let t2 := impl_yzeroAtom.v e.2.2.2.1; (if t2 = true then (if (t1.1.2.1 : Int) = t0.1.2.1 then (let t3 := impl_yopFits.v e.2.1 t1.1.2.1; (if t3 = true then (impl_GoodCaveat.l37.v x90 y0_0 y0_1 rest (i + 1)) else false)) else false) else false)) else false))) else false))
theorem impl_GoodCaveat.l37.v_ev (x90 : (List T24)) (y0_0 : ByteArray) (y0_1 : (List T74)) (f_x90 : fitSh (.list S24) x90) (f_y0_0 : fitSh .str y0_0) (f_y0_1 : fitSh (.list S74) y0_1)  : ∀ (rest : List T24) (i : Nat)  , x90.drop i = rest → EvF .bool (fun K j => impl_GoodCaveat.l37 K j x90 (x90.length : Int) (i : Int) y0_0 y0_1 x90) (impl_GoodCaveat.l37.v x90 y0_0 y0_1 rest i ) := by
  have bX : x90.length ≤ 140737488351232 := f_x90.1
  intro rest
  induction rest with
  | nil =>
    intro i hd
    have hz := drop_none hd
    unfold impl_GoodCaveat.l37.v
    exact EvF.lp (fun K j => impl_GoodCaveat.l37_eq K j x90 (x90.length : Int) (i : Int) y0_0 y0_1 x90) (EvF.no (by omega) (EvF.now (fit_bool _)))
  | cons e rest ih =>
    intro i hd
    obtain ⟨hlt, hd2, hx⟩ := drop_more hd
    have f_e : fitSh S24 e := hx (dflt S24) ▸ fit_rd f_x90 _
    have f_i : fitSh (.int .i64) (i : Int) := fit_len (by omega)
    unfold impl_GoodCaveat.l37.v
    refine EvF.lp (fun K j => impl_GoodCaveat.l37_eq K j x90 (x90.length : Int) (i : Int) y0_0 y0_1 x90) (EvF.yes (by omega) ?_)
    try rw [hx]
    try rw [wrap_nat (i := i) (by omega)]
    exact (EvF.yes (by first | omega | (simp only [wrap64] at *; omega)) (EvF.bind (impl_Caveat_yparam.v_ev _ _ (fit_pair (f_y0_0) (fit_pair (f_y0_1) (fit_pair (f_x90) (fit_unit)))) (f_e.1)) fun f_t0 => (EvF.ite (fun h0 => (EvF.ite (fun h1 => (EvF.bind (impl_GoodAtom.v_ev _ (f_e.2.2.2.1)) fun f_t1 => (EvF.ite (fun h2 => (EvF.ite (fun h3 => (EvF.bind (impl_yopFits.v_ev _ _ (f_e.2.1) (f_e.2.2.2.1.1)) fun f_t2 => (EvF.ite (fun h4 => (ih (i + 1)   hd2)) fun h4 => (EvF.now (fit_bool _))))) fun h3 => (EvF.now (fit_bool _)))) fun h2 => (EvF.now (fit_bool _))))) fun h1 => (EvF.bind (impl_Caveat_yparam.v_ev _ _ (fit_pair (f_y0_0) (fit_pair (f_y0_1) (fit_pair (f_x90) (fit_unit)))) (f_e.2.2.1)) fun f_t1 => (EvF.ite (fun h2 => (EvF.bind (impl_yzeroAtom.v_ev _ (f_e.2.2.2.1)) fun f_t2 => (EvF.ite (fun h3 => (EvF.ite (fun h4 => (EvF.bind (impl_yopFits.v_ev _ _ (f_e.2.1) (f_t1.1.2.1)) fun f_t3 => (EvF.ite (fun h5 => (ih (i + 1)   hd2)) fun h5 => (EvF.now (fit_bool _))))) fun h4 => (EvF.now (fit_bool _)))) fun h3 => (EvF.now (fit_bool _))))) fun h2 => (EvF.now (fit_bool _)))))) fun h0 => (EvF.now (fit_bool _)))))
def impl_GoodCaveat.l14.v (x41 : (List T74)) (y0_0 : ByteArray) (y0_2 : (List T24))  : List T74 → Nat → Bool
  | [], i => (impl_GoodCaveat.l37.v y0_2 y0_0 x41 y0_2 0)
  | e :: rest, i => (let t0 := impl_GoodName.v e.1; (if t0 = true then (if e.1.toList = (⟨#[116, 114, 117, 101]⟩ : ByteArray).toList then false else (if e.1.toList = (⟨#[102, 97, 108, 115, 101]⟩ : ByteArray).toList then false else (if ((i : Int) : Int) > 0 then (if (Op.bytesLess (rd Z74 x41 (wrap64 ((i : Int) - 1))).1.toList e.1.toList) = true then (if (e.2.1 : Int) < 1 then false else (if (e.2.1 : Int) > 7 then false else (impl_GoodCaveat.l14.v x41 y0_0 y0_2 rest (i + 1)))) else false) else (if (e.2.1 : Int) < 1 then false else (if (e.2.1 : Int) > 7 then false else (impl_GoodCaveat.l14.v x41 y0_0 y0_2 rest (i + 1))))))) else false))
theorem impl_GoodCaveat.l14.v_ev (x41 : (List T74)) (y0_0 : ByteArray) (y0_2 : (List T24)) (f_x41 : fitSh (.list S74) x41) (f_y0_0 : fitSh .str y0_0) (f_y0_2 : fitSh (.list S24) y0_2)  : ∀ (rest : List T74) (i : Nat)  , x41.drop i = rest → EvF .bool (fun K j => impl_GoodCaveat.l14 K j x41 (x41.length : Int) (i : Int) y0_0 x41 y0_2) (impl_GoodCaveat.l14.v x41 y0_0 y0_2 rest i ) := by
  have bX : x41.length ≤ 140737488351232 := f_x41.1
  intro rest
  induction rest with
  | nil =>
    intro i hd
    have hz := drop_none hd
    unfold impl_GoodCaveat.l14.v
    exact EvF.lp (fun K j => impl_GoodCaveat.l14_eq K j x41 (x41.length : Int) (i : Int) y0_0 x41 y0_2) (EvF.no (by omega) (impl_GoodCaveat.l37.v_ev y0_2 y0_0 x41 (f_y0_2) (f_y0_0) (f_x41)  _ 0    rfl))
  | cons e rest ih =>
    intro i hd
    obtain ⟨hlt, hd2, hx⟩ := drop_more hd
    have f_e : fitSh S74 e := hx (dflt S74) ▸ fit_rd f_x41 _
    have f_i : fitSh (.int .i64) (i : Int) := fit_len (by omega)
    unfold impl_GoodCaveat.l14.v
    refine EvF.lp (fun K j => impl_GoodCaveat.l14_eq K j x41 (x41.length : Int) (i : Int) y0_0 x41 y0_2) (EvF.yes (by omega) ?_)
    try rw [hx]
    try rw [wrap_nat (i := i) (by omega)]
    exact (EvF.yes (by first | omega | (simp only [wrap64] at *; omega)) (EvF.bind (impl_GoodName.v_ev _ (f_e.1)) fun f_t0 => (EvF.ite (fun h0 => (EvF.ite (fun h1 => (EvF.now (fit_bool _))) fun h1 => (EvF.ite (fun h2 => (EvF.now (fit_bool _))) fun h2 => (EvF.ite (fun h3 => (EvF.yes (by first | omega | (simp only [wrap64] at *; omega)) (EvF.ite (fun h4 => (EvF.ite (fun h5 => (EvF.now (fit_bool _))) fun h5 => (EvF.ite (fun h6 => (EvF.now (fit_bool _))) fun h6 => (ih (i + 1)   hd2)))) fun h4 => (EvF.now (fit_bool _))))) fun h3 => (EvF.ite (fun h4 => (EvF.now (fit_bool _))) fun h4 => (EvF.ite (fun h5 => (EvF.now (fit_bool _))) fun h5 => (ih (i + 1)   hd2))))))) fun h0 => (EvF.now (fit_bool _)))))
def impl_GoodCaveat.v (a0 : T49) : Bool :=
  (let t0 := impl_GoodName.v a0.1; (if t0 = true then (if ((a0.2.1.length : Int) : Int) < 1 then false else (if ((a0.2.1.length : Int) : Int) > 6 then false else (if ((a0.2.2.1.length : Int) : Int) < 1 then false else (if ((a0.2.2.1.length : Int) : Int) > 6 then false else (impl_GoodCaveat.l14.v a0.2.1 a0.1 a0.2.2.1 a0.2.1 0))))) else false))
theorem impl_GoodCaveat.v_ev (a0 : T49) (f_a0 : fitSh S49 a0) : EvF .bool (fun K _ => impl_GoodCaveat.f K a0) (impl_GoodCaveat.v a0) := by
  unfold impl_GoodCaveat.v
  exact EvF.fn (fun k => impl_GoodCaveat.f_eq k a0) (EvF.bind (impl_GoodName.v_ev _ (f_a0.1)) fun f_t0 => (EvF.ite (fun h0 => (EvF.ite (fun h1 => (EvF.now (fit_bool _))) fun h1 => (EvF.ite (fun h2 => (EvF.now (fit_bool _))) fun h2 => (EvF.ite (fun h3 => (EvF.now (fit_bool _))) fun h3 => (EvF.ite (fun h4 => (EvF.now (fit_bool _))) fun h4 => (EvF.diag (impl_GoodCaveat.l14.v_ev a0.2.1 a0.1 a0.2.2.1 (f_a0.2.1) (f_a0.1) (f_a0.2.2.1)  _ 0    rfl))))))) fun h0 => (EvF.now (fit_bool _))))

theorem paramC_same (y0 : ByteArray) (ps : List T74) (x : List T24) (n : ByteArray) : impl_Caveat_yparam.v (y0, (ps, (x, ()))) n = spec_l6Param.v ps n := by
  have h : ∀ (rest : List T74) (i : Nat), impl_yfind_impl_Param_v1.l6.v n rest i = spec_l6Param.l6.v n rest i := by
    intro rest
    induction rest with
    | nil => intro i; rfl
    | cons e rest ih => intro i; unfold impl_yfind_impl_Param_v1.l6.v spec_l6Param.l6.v impl_Caveat_yparam_1.v; rw [ih]
  unfold impl_Caveat_yparam.v impl_yfind_impl_Param_v1.v spec_l6Param.v
  exact h _ _
theorem goodTerms_same (x : List T24) (y0 : ByteArray) (ps : List T74) : ∀ (rest : List T24) (i : Nat), impl_GoodCaveat.l37.v x y0 ps rest i = spec_GoodCaveat.l37.v ps rest i
  | [], i => by unfold impl_GoodCaveat.l37.v spec_GoodCaveat.l37.v; rfl
  | e :: rest, i => by
    unfold impl_GoodCaveat.l37.v spec_GoodCaveat.l37.v spec_l6GoodTerm.v
    rw [goodTerms_same x y0 ps rest]
    simp only [paramC_same]
    generalize spec_GoodCaveat.l37.v ps rest (i + 1) = R
    by_cases a : (spec_l6Param.v ps e.1).2.1 = true
    · rw [if_pos a, if_pos a]
      by_cases b : e.2.2.1.toList = (⟨#[]⟩ : ByteArray).toList
      · rw [if_pos b, if_pos b]
        by_cases c : goodAtom e.2.2.2.1 = true
        · rw [if_pos c, if_pos c]
          by_cases d : e.2.2.2.1.1 = (spec_l6Param.v ps e.1).1.2.1
          · rw [if_pos d, if_pos d]; rfl
          · rw [if_neg d, if_neg d]; rfl
        · rw [if_neg c, if_neg c]; rfl
      · rw [if_neg b, if_neg b]
        by_cases c : (spec_l6Param.v ps e.2.2.1).2.1 = true
        · rw [if_pos c, if_pos c]
          unfold impl_yzeroAtom.v
          by_cases d : eqD S22 e.2.2.2.1 ((0, (0, ((⟨#[]⟩ : ByteArray), ((⟨#[]⟩ : ByteArray), ())))) : T22) = true
          · rw [if_pos d, if_pos d]
            by_cases f : (spec_l6Param.v ps e.2.2.1).1.2.1 = (spec_l6Param.v ps e.1).1.2.1
            · rw [if_pos f, if_pos f]; rfl
            · rw [if_neg f, if_neg f]; rfl
          · rw [if_neg d, if_neg d]; rfl
        · rw [if_neg c, if_neg c]; rfl
    · rw [if_neg a, if_neg a]; rfl
theorem goodParams_same (x : List T74) (y0 : ByteArray) (tm : List T24) : ∀ (rest : List T74) (i : Nat), impl_GoodCaveat.l14.v x y0 tm rest i = spec_GoodCaveat.l14.v x tm rest i
  | [], i => by unfold impl_GoodCaveat.l14.v spec_GoodCaveat.l14.v; rw [goodTerms_same]
  | e :: rest, i => by
    unfold impl_GoodCaveat.l14.v spec_GoodCaveat.l14.v
    rw [goodParams_same x y0 tm rest]
    dsimp only [impl_GoodName.v, spec_GoodName.v, spec_l1CmpText.v]
    cases goodName e.1 with
    | false => simp
    | true =>
      simp only [if_true]
      by_cases hi : (i : Int) > 0
      · rw [if_pos hi, if_pos hi]
        by_cases c : cmpT (rd Z74 x (wrap64 ((i : Int) - 1))).1 e.1 ≥ 0
        · rw [if_pos c, if_neg (show ¬ (Op.bytesLess (rd Z74 x (wrap64 ((i : Int) - 1))).1.toList e.1.toList = true) from fun q => by have := (less_cmp _ _).1 q; omega)]; simp
        · rw [if_neg c, if_pos ((less_cmp _ _).2 (by omega))]
      · rw [if_neg hi, if_neg hi]
theorem caveat_same (c : T49) : impl_GoodCaveat.v c = spec_GoodCaveat.v c := by
  unfold impl_GoodCaveat.v spec_GoodCaveat.v
  simp only [goodParams_same]

theorem toAtom_ev (a : T22) (h : smSh S22 a) : Ev (fun K _ => laws_toAtom.f K a) a := by
  obtain ⟨q0, q1, q2, q3, _⟩ := h
  exact Ev.fn (fun k => laws_toAtom.f_eq k a) (Ev.now _)
theorem eqAtom_ev (a : T22) (h : smSh S22 a) : Ev (fun K _ => laws_eqAtom.f K a a) true := by
  obtain ⟨q0, q1, q2, q3, _⟩ := h
  exact Ev.fn (fun k => laws_eqAtom.f_eq k a a) (Ev.yes rfl (Ev.yes rfl (Ev.yes rfl (Ev.yes rfl (Ev.now _)))))
theorem szAtom_ok (a : T22) (m : Int) (h0 : 0 ≤ m) (h1 : m ≤ 1048576) (hf : fitSh S22 a) : SzP (fun K _ => laws_szAtom.f K a m) m (smSh S22 a) := by
  obtain ⟨q0, q1, q2, q3, _⟩ := hf
  refine SzP.fn (fun k => laws_szAtom.f_eq k a m) ?_
  have b2 : a.2.2.1.size ≤ 140737488351232 := q2
  have w1 := wrap_id (x := m - (a.2.2.1.size : Int)) (by omega) (by omega)
  refine SzP.cut (by omega) fun c1 => ?_
  obtain ⟨m1, e1⟩ : ∃ z, z = wrap64 (m - (a.2.2.1.size : Int)) := ⟨_, rfl⟩
  simp only [← e1] at c1 w1 ⊢
  have b3 : a.2.2.2.1.size ≤ 140737488351232 := q3
  have w2 := wrap_id (x := m1 - (a.2.2.2.1.size : Int)) (by omega) (by omega)
  refine SzP.cut (by omega) fun c2 => ?_
  obtain ⟨m2, e2⟩ : ∃ z, z = wrap64 (m1 - (a.2.2.2.1.size : Int)) := ⟨_, rfl⟩
  simp only [← e2] at c2 w2 ⊢
  exact SzP.now (by omega) (by omega) ⟨q0, q1, (show a.2.2.1.size ≤ 1048576 by omega), (show a.2.2.2.1.size ≤ 1048576 by omega), trivial⟩
theorem toCavTerm_ev (a : T24) (h : smSh S24 a) : Ev (fun K _ => laws_toCavTerm.f K a) a := by
  obtain ⟨q0, q1, q2, q3, _⟩ := h
  exact Ev.fn (fun k => laws_toCavTerm.f_eq k a) ((toAtom_ev _ q3).bind (Ev.now _))
theorem eqCavTerm_ev (a : T24) (h : smSh S24 a) : Ev (fun K _ => laws_eqCavTerm.f K a a) true := by
  obtain ⟨q0, q1, q2, q3, _⟩ := h
  exact Ev.fn (fun k => laws_eqCavTerm.f_eq k a a) (Ev.yes rfl (Ev.yes rfl (Ev.yes rfl ((eqAtom_ev _ q3).bind (Ev.yes rfl (Ev.now _))))))
theorem szCavTerm_ok (a : T24) (m : Int) (h0 : 0 ≤ m) (h1 : m ≤ 1048576) (hf : fitSh S24 a) : SzP (fun K _ => laws_szCavTerm.f K a m) m (smSh S24 a) := by
  obtain ⟨q0, q1, q2, q3, _⟩ := hf
  refine SzP.fn (fun k => laws_szCavTerm.f_eq k a m) ?_
  have b0 : a.1.size ≤ 140737488351232 := q0
  have w1 := wrap_id (x := m - (a.1.size : Int)) (by omega) (by omega)
  refine SzP.cut (by omega) fun c1 => ?_
  obtain ⟨m1, e1⟩ : ∃ z, z = wrap64 (m - (a.1.size : Int)) := ⟨_, rfl⟩
  simp only [← e1] at c1 w1 ⊢
  have b2 : a.2.2.1.size ≤ 140737488351232 := q2
  have w2 := wrap_id (x := m1 - (a.2.2.1.size : Int)) (by omega) (by omega)
  refine SzP.cut (by omega) fun c2 => ?_
  obtain ⟨m2, e2⟩ : ∃ z, z = wrap64 (m1 - (a.2.2.1.size : Int)) := ⟨_, rfl⟩
  simp only [← e2] at c2 w2 ⊢
  refine SzP.bind (szAtom_ok _ m2 (by omega) (by omega) q3) (by omega) fun m3 r3 s3 p3 => ?_
  exact SzP.now (by omega) (by omega) ⟨(show a.1.size ≤ 1048576 by omega), q1, (show a.2.2.1.size ≤ 1048576 by omega), p3, trivial⟩
theorem toParam_ev (a : T74) (h : smSh S74 a) : Ev (fun K _ => laws_toParam.f K a) a := by
  obtain ⟨q0, q1, _⟩ := h
  exact Ev.fn (fun k => laws_toParam.f_eq k a) (Ev.now _)
theorem eqParam_ev (a : T74) (h : smSh S74 a) : Ev (fun K _ => laws_eqParam.f K a a) true := by
  obtain ⟨q0, q1, _⟩ := h
  exact Ev.fn (fun k => laws_eqParam.f_eq k a a) (Ev.yes rfl (Ev.yes rfl (Ev.now _)))
theorem szParam_ok (a : T74) (m : Int) (h0 : 0 ≤ m) (h1 : m ≤ 1048576) (hf : fitSh S74 a) : SzP (fun K _ => laws_szParam.f K a m) m (smSh S74 a) := by
  obtain ⟨q0, q1, _⟩ := hf
  refine SzP.fn (fun k => laws_szParam.f_eq k a m) ?_
  have b0 : a.1.size ≤ 140737488351232 := q0
  have w1 := wrap_id (x := m - (a.1.size : Int)) (by omega) (by omega)
  refine SzP.cut (by omega) fun c1 => ?_
  obtain ⟨m1, e1⟩ : ∃ z, z = wrap64 (m - (a.1.size : Int)) := ⟨_, rfl⟩
  simp only [← e1] at c1 w1 ⊢
  exact SzP.now (by omega) (by omega) ⟨(show a.1.size ≤ 1048576 by omega), q1, trivial⟩
theorem toParamS_ev (l : List T74) (hl : smSh (.list S74) l) : Ev (fun K _ => laws_toParamS.f K l) l := by
  obtain ⟨hn, hl⟩ := hl
  have hn : l.length ≤ 1048576 := hn
  refine Ev.fn (fun k => laws_toParamS.f_eq k l) (Ev.yes (by omega) (Ev.yes rfl (Ev.diag (copy_loop (L := fun K j i y => laws_toParamS.l8 K j l i y) (fun i h y hy r hr => ?_) (fun y => ?_) l.length 0 _ (by omega) (reps_length _ _) rfl))))
  · refine Ev.lp (fun K j => laws_toParamS.l8_eq K j l i y) (Ev.yes (by omega) ?_)
    rw [rd_at _ _ _ h, wrap_nat (by omega)]
    exact Ev.yes (by omega) ((toParam_ev l[i] (hl _ (List.getElem_mem h))).bind (Ev.yes (by omega) hr))
  · exact Ev.lp (fun K j => laws_toParamS.l8_eq K j l _ y) (Ev.no (by omega) (Ev.now _))
theorem eqParamS_ev (l : List T74) (hl : smSh (.list S74) l) : Ev (fun K _ => laws_eqParamS.f K l l) true := by
  obtain ⟨hn, hl⟩ := hl
  have hn : l.length ≤ 1048576 := hn
  refine Ev.fn (fun k => laws_eqParamS.f_eq k l l) (Ev.yes rfl (Ev.diag (true_loop (L := fun K j i => laws_eqParamS.l14 K j l l i) (n := l.length) (fun i h r hr => ?_) ?_ l.length 0 (by omega))))
  · refine Ev.lp (fun K j => laws_eqParamS.l14_eq K j l l i) (Ev.yes (by omega) (Ev.yes (by omega) (Ev.yes (by omega) ((eqParam_ev _ (by rw [rd_at _ _ _ h]; exact hl _ (List.getElem_mem h))).bind (Ev.yes rfl ?_)))))
    rw [wrap_nat (by omega)]; exact hr
  · exact Ev.lp (fun K j => laws_eqParamS.l14_eq K j l l _) (Ev.no (by omega) (Ev.now _))
theorem szParamS_ok (l : List T74) (m : Int) (h0 : 0 ≤ m) (h1 : m ≤ 1048576) (hf : fitSh (.list S74) l) : SzP (fun K _ => laws_szParamS.f K l m) m (smSh (.list S74) l) := by
  obtain ⟨hn, hf⟩ := hf
  have hn : l.length ≤ 140737488351232 := hn
  refine SzP.fn (fun k => laws_szParamS.f_eq k l m) ?_
  rw [wrap_id (x := m - (l.length : Int)) (by omega) (by omega)]
  refine SzP.cut (by omega) fun hc => ?_
  refine (SzP.loop (L := fun K j m i => laws_szParamS.l16 K j l m i) (sz_row (L := fun K j m i => laws_szParamS.l16 K j l m i) (l := l) (P := smSh S74) (fun i h m h0 h1 => ?_) (fun m => ?_) l.length 0 (m - l.length) (by omega) (by omega) (by omega)) fun p => ⟨show l.length ≤ 1048576 by omega, fun x hx => p x hx⟩).imp (by omega) fun p => p
  · obtain ⟨r, q, q1, q2, q3⟩ := szParam_ok l[i] m h0 h1 (hf _ (List.getElem_mem h))
    refine ⟨r, q1, q2, q3, fun hr => ?_, fun hr s hs => ?_⟩
    · refine Ev.lp (fun K j => laws_szParamS.l16_eq K j l m i) (Ev.yes (by omega) (Ev.yes (by omega) ?_))
      rw [rd_at _ _ _ h]; exact q.bind (Ev.yes hr (Ev.now _))
    · refine Ev.lp (fun K j => laws_szParamS.l16_eq K j l m i) (Ev.yes (by omega) (Ev.yes (by omega) ?_))
      rw [rd_at _ _ _ h, wrap_nat (by omega)]; exact q.bind (Ev.no (by omega) hs)
  · exact Ev.lp (fun K j => laws_szParamS.l16_eq K j l m _) (Ev.no (by omega) (Ev.now _))
theorem toAtomS_ev (l : List T22) (hl : smSh (.list S22) l) : Ev (fun K _ => laws_toAtomS.f K l) l := by
  obtain ⟨hn, hl⟩ := hl
  have hn : l.length ≤ 1048576 := hn
  refine Ev.fn (fun k => laws_toAtomS.f_eq k l) (Ev.yes (by omega) (Ev.yes rfl (Ev.diag (copy_loop (L := fun K j i y => laws_toAtomS.l8 K j l i y) (fun i h y hy r hr => ?_) (fun y => ?_) l.length 0 _ (by omega) (reps_length _ _) rfl))))
  · refine Ev.lp (fun K j => laws_toAtomS.l8_eq K j l i y) (Ev.yes (by omega) ?_)
    rw [rd_at _ _ _ h, wrap_nat (by omega)]
    exact Ev.yes (by omega) ((toAtom_ev l[i] (hl _ (List.getElem_mem h))).bind (Ev.yes (by omega) hr))
  · exact Ev.lp (fun K j => laws_toAtomS.l8_eq K j l _ y) (Ev.no (by omega) (Ev.now _))
theorem eqAtomS_ev (l : List T22) (hl : smSh (.list S22) l) : Ev (fun K _ => laws_eqAtomS.f K l l) true := by
  obtain ⟨hn, hl⟩ := hl
  have hn : l.length ≤ 1048576 := hn
  refine Ev.fn (fun k => laws_eqAtomS.f_eq k l l) (Ev.yes rfl (Ev.diag (true_loop (L := fun K j i => laws_eqAtomS.l14 K j l l i) (n := l.length) (fun i h r hr => ?_) ?_ l.length 0 (by omega))))
  · refine Ev.lp (fun K j => laws_eqAtomS.l14_eq K j l l i) (Ev.yes (by omega) (Ev.yes (by omega) (Ev.yes (by omega) ((eqAtom_ev _ (by rw [rd_at _ _ _ h]; exact hl _ (List.getElem_mem h))).bind (Ev.yes rfl ?_)))))
    rw [wrap_nat (by omega)]; exact hr
  · exact Ev.lp (fun K j => laws_eqAtomS.l14_eq K j l l _) (Ev.no (by omega) (Ev.now _))
theorem szAtomS_ok (l : List T22) (m : Int) (h0 : 0 ≤ m) (h1 : m ≤ 1048576) (hf : fitSh (.list S22) l) : SzP (fun K _ => laws_szAtomS.f K l m) m (smSh (.list S22) l) := by
  obtain ⟨hn, hf⟩ := hf
  have hn : l.length ≤ 140737488351232 := hn
  refine SzP.fn (fun k => laws_szAtomS.f_eq k l m) ?_
  rw [wrap_id (x := m - (l.length : Int)) (by omega) (by omega)]
  refine SzP.cut (by omega) fun hc => ?_
  refine (SzP.loop (L := fun K j m i => laws_szAtomS.l16 K j l m i) (sz_row (L := fun K j m i => laws_szAtomS.l16 K j l m i) (l := l) (P := smSh S22) (fun i h m h0 h1 => ?_) (fun m => ?_) l.length 0 (m - l.length) (by omega) (by omega) (by omega)) fun p => ⟨show l.length ≤ 1048576 by omega, fun x hx => p x hx⟩).imp (by omega) fun p => p
  · obtain ⟨r, q, q1, q2, q3⟩ := szAtom_ok l[i] m h0 h1 (hf _ (List.getElem_mem h))
    refine ⟨r, q1, q2, q3, fun hr => ?_, fun hr s hs => ?_⟩
    · refine Ev.lp (fun K j => laws_szAtomS.l16_eq K j l m i) (Ev.yes (by omega) (Ev.yes (by omega) ?_))
      rw [rd_at _ _ _ h]; exact q.bind (Ev.yes hr (Ev.now _))
    · refine Ev.lp (fun K j => laws_szAtomS.l16_eq K j l m i) (Ev.yes (by omega) (Ev.yes (by omega) ?_))
      rw [rd_at _ _ _ h, wrap_nat (by omega)]; exact q.bind (Ev.no (by omega) hs)
  · exact Ev.lp (fun K j => laws_szAtomS.l16_eq K j l m _) (Ev.no (by omega) (Ev.now _))
theorem toStringS_ev (l : List ByteArray) (hl : smSh (.list .str) l) : Ev (fun K _ => laws_toStringS.f K l) l := by
  obtain ⟨hn, hl⟩ := hl
  have hn : l.length ≤ 1048576 := hn
  refine Ev.fn (fun k => laws_toStringS.f_eq k l) (Ev.yes (by omega) (Ev.yes rfl (Ev.diag (copy_loop (L := fun K j i y => laws_toStringS.l8 K j l i y) (fun i h y hy r hr => ?_) (fun y => ?_) l.length 0 _ (by omega) (reps_length _ _) rfl))))
  · refine Ev.lp (fun K j => laws_toStringS.l8_eq K j l i y) (Ev.yes (by omega) ?_)
    rw [rd_at _ _ _ h, wrap_nat (by omega)]
    exact Ev.yes (by omega) (Ev.yes (by omega) hr)
  · exact Ev.lp (fun K j => laws_toStringS.l8_eq K j l _ y) (Ev.no (by omega) (Ev.now _))
theorem eqStringS_ev (l : List ByteArray) (hl : smSh (.list .str) l) : Ev (fun K _ => laws_eqStringS.f K l l) true := by
  obtain ⟨hn, hl⟩ := hl
  have hn : l.length ≤ 1048576 := hn
  refine Ev.fn (fun k => laws_eqStringS.f_eq k l l) (Ev.yes rfl (Ev.diag (true_loop (L := fun K j i => laws_eqStringS.l14 K j l l i) (n := l.length) (fun i h r hr => ?_) ?_ l.length 0 (by omega))))
  · refine Ev.lp (fun K j => laws_eqStringS.l14_eq K j l l i) (Ev.yes (by omega) (Ev.yes (by omega) (Ev.yes (by omega) (Ev.yes rfl ?_))))
    rw [wrap_nat (by omega)]; exact hr
  · exact Ev.lp (fun K j => laws_eqStringS.l14_eq K j l l _) (Ev.no (by omega) (Ev.now _))
theorem szStringS_ok (l : List ByteArray) (m : Int) (h0 : 0 ≤ m) (h1 : m ≤ 1048576) (hf : fitSh (.list .str) l) : SzP (fun K _ => laws_szStringS.f K l m) m (smSh (.list .str) l) := by
  obtain ⟨hn, hf⟩ := hf
  have hn : l.length ≤ 140737488351232 := hn
  refine SzP.fn (fun k => laws_szStringS.f_eq k l m) ?_
  rw [wrap_id (x := m - (l.length : Int)) (by omega) (by omega)]
  refine SzP.cut (by omega) fun hc => ?_
  refine (SzP.loop (L := fun K j m i => laws_szStringS.l16 K j l m i) (sz_row (L := fun K j m i => laws_szStringS.l16 K j l m i) (l := l) (P := smSh .str) (fun i h m h0 h1 => ?_) (fun m => ?_) l.length 0 (m - l.length) (by omega) (by omega) (by omega)) fun p => ⟨show l.length ≤ 1048576 by omega, fun x hx => p x hx⟩).imp (by omega) fun p => p
  · have b : l[i].size ≤ 140737488351232 := hf _ (List.getElem_mem h)
    have w := wrap_id (x := m - (l[i].size : Int)) (by omega) (by omega)
    refine ⟨if m - (l[i].size : Int) < 0 then -1 else m - (l[i].size : Int), ?_, ?_, ?_, ?_, ?_⟩
    · split <;> omega
    · split <;> omega
    · intro q; show l[i].size ≤ 1048576; split at q <;> omega
    · intro q
      refine Ev.lp (fun K j => laws_szStringS.l16_eq K j l m i) (Ev.yes (by omega) (Ev.yes (by omega) ?_))
      rw [rd_at _ _ _ h, w]
      exact Ev.yes (by split at q <;> omega) (Ev.now _)
    · intro q s hs
      rw [if_neg (by split at q <;> omega)] at hs
      refine Ev.lp (fun K j => laws_szStringS.l16_eq K j l m i) (Ev.yes (by omega) (Ev.yes (by omega) ?_))
      rw [rd_at _ _ _ h, w, wrap_nat (by omega)]
      exact Ev.no (by split at q <;> omega) hs
  · exact Ev.lp (fun K j => laws_szStringS.l16_eq K j l m _) (Ev.no (by omega) (Ev.now _))
theorem toValue_ev (a : T29) (h : smSh S29 a) : Ev (fun K _ => laws_toValue.f K a) a := by
  obtain ⟨q0, q1, q2, q3, _⟩ := h
  exact Ev.fn (fun k => laws_toValue.f_eq k a) ((toAtom_ev _ q1).bind ((toAtomS_ev _ q2).bind ((toStringS_ev _ q3).bind (Ev.now _))))
theorem eqValue_ev (a : T29) (h : smSh S29 a) : Ev (fun K _ => laws_eqValue.f K a a) true := by
  obtain ⟨q0, q1, q2, q3, _⟩ := h
  exact Ev.fn (fun k => laws_eqValue.f_eq k a a) (Ev.yes rfl ((eqAtom_ev _ q1).bind (Ev.yes rfl ((eqAtomS_ev _ q2).bind (Ev.yes rfl ((eqStringS_ev _ q3).bind (Ev.yes rfl (Ev.now _))))))))
theorem szValue_ok (a : T29) (m : Int) (h0 : 0 ≤ m) (h1 : m ≤ 1048576) (hf : fitSh S29 a) : SzP (fun K _ => laws_szValue.f K a m) m (smSh S29 a) := by
  obtain ⟨q0, q1, q2, q3, _⟩ := hf
  refine SzP.fn (fun k => laws_szValue.f_eq k a m) ?_
  refine SzP.bind (szAtom_ok _ m (by omega) (by omega) q1) (by omega) fun m1 r1 s1 p1 => ?_
  refine SzP.bind (szAtomS_ok _ m1 (by omega) (by omega) q2) (by omega) fun m2 r2 s2 p2 => ?_
  refine SzP.bind (szStringS_ok _ m2 (by omega) (by omega) q3) (by omega) fun m3 r3 s3 p3 => ?_
  exact SzP.now (by omega) (by omega) ⟨q0, p1, p2, p3, trivial⟩
theorem toCavTermS_ev (l : List T24) (hl : smSh (.list S24) l) : Ev (fun K _ => laws_toCavTermS.f K l) l := by
  obtain ⟨hn, hl⟩ := hl
  have hn : l.length ≤ 1048576 := hn
  refine Ev.fn (fun k => laws_toCavTermS.f_eq k l) (Ev.yes (by omega) (Ev.yes rfl (Ev.diag (copy_loop (L := fun K j i y => laws_toCavTermS.l8 K j l i y) (fun i h y hy r hr => ?_) (fun y => ?_) l.length 0 _ (by omega) (reps_length _ _) rfl))))
  · refine Ev.lp (fun K j => laws_toCavTermS.l8_eq K j l i y) (Ev.yes (by omega) ?_)
    rw [rd_at _ _ _ h, wrap_nat (by omega)]
    exact Ev.yes (by omega) ((toCavTerm_ev l[i] (hl _ (List.getElem_mem h))).bind (Ev.yes (by omega) hr))
  · exact Ev.lp (fun K j => laws_toCavTermS.l8_eq K j l _ y) (Ev.no (by omega) (Ev.now _))
theorem eqCavTermS_ev (l : List T24) (hl : smSh (.list S24) l) : Ev (fun K _ => laws_eqCavTermS.f K l l) true := by
  obtain ⟨hn, hl⟩ := hl
  have hn : l.length ≤ 1048576 := hn
  refine Ev.fn (fun k => laws_eqCavTermS.f_eq k l l) (Ev.yes rfl (Ev.diag (true_loop (L := fun K j i => laws_eqCavTermS.l14 K j l l i) (n := l.length) (fun i h r hr => ?_) ?_ l.length 0 (by omega))))
  · refine Ev.lp (fun K j => laws_eqCavTermS.l14_eq K j l l i) (Ev.yes (by omega) (Ev.yes (by omega) (Ev.yes (by omega) ((eqCavTerm_ev _ (by rw [rd_at _ _ _ h]; exact hl _ (List.getElem_mem h))).bind (Ev.yes rfl ?_)))))
    rw [wrap_nat (by omega)]; exact hr
  · exact Ev.lp (fun K j => laws_eqCavTermS.l14_eq K j l l _) (Ev.no (by omega) (Ev.now _))
theorem szCavTermS_ok (l : List T24) (m : Int) (h0 : 0 ≤ m) (h1 : m ≤ 1048576) (hf : fitSh (.list S24) l) : SzP (fun K _ => laws_szCavTermS.f K l m) m (smSh (.list S24) l) := by
  obtain ⟨hn, hf⟩ := hf
  have hn : l.length ≤ 140737488351232 := hn
  refine SzP.fn (fun k => laws_szCavTermS.f_eq k l m) ?_
  rw [wrap_id (x := m - (l.length : Int)) (by omega) (by omega)]
  refine SzP.cut (by omega) fun hc => ?_
  refine (SzP.loop (L := fun K j m i => laws_szCavTermS.l16 K j l m i) (sz_row (L := fun K j m i => laws_szCavTermS.l16 K j l m i) (l := l) (P := smSh S24) (fun i h m h0 h1 => ?_) (fun m => ?_) l.length 0 (m - l.length) (by omega) (by omega) (by omega)) fun p => ⟨show l.length ≤ 1048576 by omega, fun x hx => p x hx⟩).imp (by omega) fun p => p
  · obtain ⟨r, q, q1, q2, q3⟩ := szCavTerm_ok l[i] m h0 h1 (hf _ (List.getElem_mem h))
    refine ⟨r, q1, q2, q3, fun hr => ?_, fun hr s hs => ?_⟩
    · refine Ev.lp (fun K j => laws_szCavTermS.l16_eq K j l m i) (Ev.yes (by omega) (Ev.yes (by omega) ?_))
      rw [rd_at _ _ _ h]; exact q.bind (Ev.yes hr (Ev.now _))
    · refine Ev.lp (fun K j => laws_szCavTermS.l16_eq K j l m i) (Ev.yes (by omega) (Ev.yes (by omega) ?_))
      rw [rd_at _ _ _ h, wrap_nat (by omega)]; exact q.bind (Ev.no (by omega) hs)
  · exact Ev.lp (fun K j => laws_szCavTermS.l16_eq K j l m _) (Ev.no (by omega) (Ev.now _))
theorem toCaveat_ev (a : T49) (h : smSh S49 a) : Ev (fun K _ => laws_toCaveat.f K a) a := by
  obtain ⟨q0, q1, q2, _⟩ := h
  exact Ev.fn (fun k => laws_toCaveat.f_eq k a) ((toParamS_ev _ q1).bind ((toCavTermS_ev _ q2).bind (Ev.now _)))
theorem eqCaveat_ev (a : T49) (h : smSh S49 a) : Ev (fun K _ => laws_eqCaveat.f K a a) true := by
  obtain ⟨q0, q1, q2, _⟩ := h
  exact Ev.fn (fun k => laws_eqCaveat.f_eq k a a) (Ev.yes rfl ((eqParamS_ev _ q1).bind (Ev.yes rfl ((eqCavTermS_ev _ q2).bind (Ev.yes rfl (Ev.now _))))))
theorem szCaveat_ok (a : T49) (m : Int) (h0 : 0 ≤ m) (h1 : m ≤ 1048576) (hf : fitSh S49 a) : SzP (fun K _ => laws_szCaveat.f K a m) m (smSh S49 a) := by
  obtain ⟨q0, q1, q2, _⟩ := hf
  refine SzP.fn (fun k => laws_szCaveat.f_eq k a m) ?_
  have b0 : a.1.size ≤ 140737488351232 := q0
  have w1 := wrap_id (x := m - (a.1.size : Int)) (by omega) (by omega)
  refine SzP.cut (by omega) fun c1 => ?_
  obtain ⟨m1, e1⟩ : ∃ z, z = wrap64 (m - (a.1.size : Int)) := ⟨_, rfl⟩
  simp only [← e1] at c1 w1 ⊢
  refine SzP.bind (szParamS_ok _ m1 (by omega) (by omega) q1) (by omega) fun m2 r2 s2 p1 => ?_
  refine SzP.bind (szCavTermS_ok _ m2 (by omega) (by omega) q2) (by omega) fun m3 r3 s3 p2 => ?_
  exact SzP.now (by omega) (by omega) ⟨(show a.1.size ≤ 1048576 by omega), p1, p2, trivial⟩

def spec_l6Holds.l8.v (y0_1 : (List T74)) (y1_0 : Int) (y1_1 : Int) (y1_2 : Int) (y1_3 : ByteArray) (y1_4 : ByteArray) (y1_5 : (List T22)) (y1_6 : (List ByteArray))  : List T24 → Nat → Int → Int
  | [], i, x5 => x5
  | e :: rest, i, x5 => (let t0 := spec_l6Term.v e y0_1 (y1_0, ((y1_1, (y1_2, (y1_3, (y1_4, ())))), (y1_5, (y1_6, ())))); (if (t0 : Int) = 0 then (spec_l6Holds.l8.v y0_1 y1_0 y1_1 y1_2 y1_3 y1_4 y1_5 y1_6 rest (i + 1) t0) else (if (t0 : Int) = 2 then (if (x5 : Int) = 1 then (spec_l6Holds.l8.v y0_1 y1_0 y1_1 y1_2 y1_3 y1_4 y1_5 y1_6 rest (i + 1) t0) else (spec_l6Holds.l8.v y0_1 y1_0 y1_1 y1_2 y1_3 y1_4 y1_5 y1_6 rest (i + 1) x5)) else (spec_l6Holds.l8.v y0_1 y1_0 y1_1 y1_2 y1_3 y1_4 y1_5 y1_6 rest (i + 1) x5))))
theorem spec_l6Holds.l8.v_ev (x10 : (List T24)) (y0_0 : ByteArray) (y0_1 : (List T74)) (y1_0 : Int) (y1_1 : Int) (y1_2 : Int) (y1_3 : ByteArray) (y1_4 : ByteArray) (y1_5 : (List T22)) (y1_6 : (List ByteArray)) (f_x10 : fitSh (.list S24) x10) (f_y0_0 : fitSh .str y0_0) (f_y0_1 : fitSh (.list S74) y0_1) (f_y1_0 : fitSh (.int .i64) y1_0) (f_y1_1 : fitSh (.int .i64) y1_1) (f_y1_2 : fitSh (.int .i64) y1_2) (f_y1_3 : fitSh .str y1_3) (f_y1_4 : fitSh .str y1_4) (f_y1_5 : fitSh (.list S22) y1_5) (f_y1_6 : fitSh (.list .str) y1_6) (hp : y1_6.length ≤ y1_5.length)  : ∀ (rest : List T24) (i : Nat) (x5 : Int)  (f_x5 : fitSh (.int .i64) x5), x10.drop i = rest → EvF (.int .i64) (fun K j => spec_l6Holds.l8 K j x5 x10 (x10.length : Int) (i : Int) y0_0 y0_1 x10 y1_0 y1_1 y1_2 y1_3 y1_4 y1_5 y1_6) (spec_l6Holds.l8.v y0_1 y1_0 y1_1 y1_2 y1_3 y1_4 y1_5 y1_6 rest i x5) := by
  have bX : x10.length ≤ 140737488351232 := f_x10.1
  intro rest
  induction rest with
  | nil =>
    intro i x5 f_x5 hd
    have hz := drop_none hd
    unfold spec_l6Holds.l8.v
    exact EvF.lp (fun K j => spec_l6Holds.l8_eq K j x5 x10 (x10.length : Int) (i : Int) y0_0 y0_1 x10 y1_0 y1_1 y1_2 y1_3 y1_4 y1_5 y1_6) (EvF.no (by omega) (EvF.now (f_x5)))
  | cons e rest ih =>
    intro i x5 f_x5 hd
    obtain ⟨hlt, hd2, hx⟩ := drop_more hd
    have f_e : fitSh S24 e := hx (dflt S24) ▸ fit_rd f_x10 _
    have f_i : fitSh (.int .i64) (i : Int) := fit_len (by omega)
    unfold spec_l6Holds.l8.v
    refine EvF.lp (fun K j => spec_l6Holds.l8_eq K j x5 x10 (x10.length : Int) (i : Int) y0_0 y0_1 x10 y1_0 y1_1 y1_2 y1_3 y1_4 y1_5 y1_6) (EvF.yes (by omega) ?_)
    try rw [hx]
    try rw [wrap_nat (i := i) (by omega)]
    exact (EvF.yes (by first | omega | (simp only [wrap64] at *; omega)) (EvF.bind (spec_l6Term.v_ev _ _ _ (f_e) (f_y0_1) (fit_pair (f_y1_0) (fit_pair (fit_pair (f_y1_1) (fit_pair (f_y1_2) (fit_pair (f_y1_3) (fit_pair (f_y1_4) (fit_unit))))) (fit_pair (f_y1_5) (fit_pair (f_y1_6) (fit_unit))))) (by first | assumption | omega | exact l6record_len (by assumption))) fun f_t0 => (EvF.ite (fun h0 => (ih (i + 1) _ (f_t0) hd2)) fun h0 => (EvF.ite (fun h1 => (EvF.ite (fun h2 => (ih (i + 1) _ (f_t0) hd2)) fun h2 => (ih (i + 1) _ (f_x5) hd2))) fun h1 => (ih (i + 1) _ (f_x5) hd2)))))
def spec_l6Holds.v (a0 : T49) (a1 : T29) : Int :=
  (spec_l6Holds.l8.v a0.2.1 a1.1 a1.2.1.1 a1.2.1.2.1 a1.2.1.2.2.1 a1.2.1.2.2.2.1 a1.2.2.1 a1.2.2.2.1 a0.2.2.1 0 1)
theorem spec_l6Holds.v_ev (a0 : T49) (a1 : T29) (f_a0 : fitSh S49 a0) (f_a1 : fitSh S29 a1) (hp : a1.2.2.2.1.length ≤ a1.2.2.1.length) : EvF (.int .i64) (fun K _ => spec_l6Holds.f K a0 a1) (spec_l6Holds.v a0 a1) := by
  unfold spec_l6Holds.v
  exact EvF.fn (fun k => spec_l6Holds.f_eq k a0 a1) (EvF.diag (spec_l6Holds.l8.v_ev a0.2.2.1 a0.1 a0.2.1 a1.1 a1.2.1.1 a1.2.1.2.1 a1.2.1.2.2.1 a1.2.1.2.2.2.1 a1.2.2.1 a1.2.2.2.1 (f_a0.2.2.1) (f_a0.1) (f_a0.2.1) (f_a1.1) (f_a1.2.1.1) (f_a1.2.1.2.1) (f_a1.2.1.2.2.1) (f_a1.2.1.2.2.2.1) (f_a1.2.2.1) (f_a1.2.2.2.1) (by first | assumption | omega | exact l6record_len (by assumption))  _ 0 1 ((fit_wfb rfl))  rfl))
def spec_CaveatHolds.v (a0 : T49) (a1 : T29) : Int :=
  (let t0 := spec_GoodCaveat.v a0; (if t0 = true then (let t1 := spec_l6Record.v a1; (if t1 = true then (spec_l6Holds.v a0 a1) else (-1))) else (-1)))
theorem spec_CaveatHolds.v_ev (a0 : T49) (a1 : T29) (f_a0 : fitSh S49 a0) (f_a1 : fitSh S29 a1) : EvF (.int .i64) (fun K _ => spec_CaveatHolds.f K a0 a1) (spec_CaveatHolds.v a0 a1) := by
  unfold spec_CaveatHolds.v
  exact EvF.fn (fun k => spec_CaveatHolds.f_eq k a0 a1) (EvF.bind (spec_GoodCaveat.v_ev _ (f_a0)) fun f_t0 => (EvF.ite (fun h0 => (EvF.bind (spec_l6Record.v_ev _ (f_a1)) fun f_t1 => (EvF.ite (fun h1 => (EvF.bind (spec_l6Holds.v_ev _ _ (f_a0) (f_a1) (by first | assumption | omega | exact l6record_len (by assumption))) fun f_t2 => (EvF.now (f_t2)))) fun h1 => (EvF.now ((fit_wfb rfl)))))) fun h0 => (EvF.now ((fit_wfb rfl)))))

def impl_CaveatHolds_1.v (a0 : ByteArray) (a1 : Int) (a2 : Int) (a3 : Int) (a4 : ByteArray) (a5 : ByteArray) (a6 : (List T22)) (a7 : (List ByteArray)) : (T22 × (Bool × Unit)) :=
  (let t0 := impl_yitem.v (a1, ((a2, (a3, (a4, (a5, ())))), (a6, (a7, ())))) a0; t0)
theorem impl_CaveatHolds_1.v_ev (a0 : ByteArray) (a1 : Int) (a2 : Int) (a3 : Int) (a4 : ByteArray) (a5 : ByteArray) (a6 : (List T22)) (a7 : (List ByteArray)) (f_a0 : fitSh .str a0) (f_a1 : fitSh (.int .i64) a1) (f_a2 : fitSh (.int .i64) a2) (f_a3 : fitSh (.int .i64) a3) (f_a4 : fitSh .str a4) (f_a5 : fitSh .str a5) (f_a6 : fitSh (.list S22) a6) (f_a7 : fitSh (.list .str) a7) : EvF (.pair S22 (.pair .bool .unit)) (fun K _ => impl_CaveatHolds_1.f K a0 a1 a2 a3 a4 a5 a6 a7) (impl_CaveatHolds_1.v a0 a1 a2 a3 a4 a5 a6 a7) := by
  unfold impl_CaveatHolds_1.v
  exact EvF.fn (fun k => impl_CaveatHolds_1.f_eq k a0 a1 a2 a3 a4 a5 a6 a7) (EvF.bind (impl_yitem.v_ev _ _ (fit_pair (f_a1) (fit_pair (fit_pair (f_a2) (fit_pair (f_a3) (fit_pair (f_a4) (fit_pair (f_a5) (fit_unit))))) (fit_pair (f_a6) (fit_pair (f_a7) (fit_unit))))) (f_a0)) fun f_t0 => (EvF.now (fit_pair (f_t0.1) (fit_pair (fit_bool _) (fit_unit)))))
def impl_yterm_1_v1.v (a0 : ByteArray) (a1 : (List T74)) (a2 : Int) (a3 : Int) (a4 : Int) (a5 : ByteArray) (a6 : ByteArray) (a7 : (List T22)) (a8 : (List ByteArray)) : (T22 × (Bool × Unit)) :=
  (let t0 := impl_yfind_impl_Param.v a1 a0; (let t1 := impl_CaveatHolds_1.v a0 a2 a3 a4 a5 a6 a7 a8; (if t0.2.1 = true then (if t1.2.1 = true then (t1.1, ((decide ((t1.1.1 : Int) = t0.1.2.1)), ())) else (t1.1, (false, ()))) else (t1.1, (false, ())))))
theorem impl_yterm_1_v1.v_ev (a0 : ByteArray) (a1 : (List T74)) (a2 : Int) (a3 : Int) (a4 : Int) (a5 : ByteArray) (a6 : ByteArray) (a7 : (List T22)) (a8 : (List ByteArray)) (f_a0 : fitSh .str a0) (f_a1 : fitSh (.list S74) a1) (f_a2 : fitSh (.int .i64) a2) (f_a3 : fitSh (.int .i64) a3) (f_a4 : fitSh (.int .i64) a4) (f_a5 : fitSh .str a5) (f_a6 : fitSh .str a6) (f_a7 : fitSh (.list S22) a7) (f_a8 : fitSh (.list .str) a8) : EvF (.pair S22 (.pair .bool .unit)) (fun K _ => impl_yterm_1_v1.f K a0 a1 a2 a3 a4 a5 a6 a7 a8) (impl_yterm_1_v1.v a0 a1 a2 a3 a4 a5 a6 a7 a8) := by
  unfold impl_yterm_1_v1.v
  exact EvF.fn (fun k => impl_yterm_1_v1.f_eq k a0 a1 a2 a3 a4 a5 a6 a7 a8) (EvF.bind (impl_yfind_impl_Param.v_ev _ _ (f_a1) (f_a0)) fun f_t0 => (EvF.bind (impl_CaveatHolds_1.v_ev _ _ _ _ _ _ _ _ (f_a0) (f_a2) (f_a3) (f_a4) (f_a5) (f_a6) (f_a7) (f_a8)) fun f_t1 => (EvF.ite (fun h0 => (EvF.ite (fun h1 => (EvF.now (fit_pair (f_t1.1) (fit_pair (fit_bool _) (fit_unit))))) fun h1 => (EvF.now (fit_pair (f_t1.1) (fit_pair (fit_bool _) (fit_unit)))))) fun h0 => (EvF.now (fit_pair (f_t1.1) (fit_pair (fit_bool _) (fit_unit)))))))
def impl_yterm_v1.v (a0 : T24) (a1 : (List T74)) (a2 : Int) (a3 : Int) (a4 : Int) (a5 : ByteArray) (a6 : ByteArray) (a7 : (List T22)) (a8 : (List ByteArray)) : Int :=
  (let t0 := impl_yterm_1_v1.v a0.1 a1 a2 a3 a4 a5 a6 a7 a8; (if a0.2.2.1.toList = (⟨#[]⟩ : ByteArray).toList then (if t0.2.1 = true then (let t1 := impl_CompareAtoms.v t0.1 a0.2.2.2.1; (if (a0.2.1 : Int) = 1 then (impl_ysure.v (decide ((t1 : Int) = 0))) else (if (a0.2.1 : Int) = 2 then (impl_ysure.v (decide ((t1 : Int) = (-1)))) else (if (a0.2.1 : Int) = 3 then (if (t1 : Int) = (-1) then (impl_ysure.v true) else (impl_ysure.v (decide ((t1 : Int) = 0)))) else (let t2 := impl_AddrIn.v t0.1 a0.2.2.2.1; (impl_ysure.v t2)))))) else 2) else (let t1 := impl_yterm_1_v1.v a0.2.2.1 a1 a2 a3 a4 a5 a6 a7 a8; (if t0.2.1 = true then (if t1.2.1 = true then (let t2 := impl_CompareAtoms.v t0.1 t1.1; (if (a0.2.1 : Int) = 1 then (impl_ysure.v (decide ((t2 : Int) = 0))) else (if (a0.2.1 : Int) = 2 then (impl_ysure.v (decide ((t2 : Int) = (-1)))) else (if (a0.2.1 : Int) = 3 then (if (t2 : Int) = (-1) then (impl_ysure.v true) else (impl_ysure.v (decide ((t2 : Int) = 0)))) else (let t3 := impl_AddrIn.v t0.1 t1.1; (impl_ysure.v t3)))))) else 2) else 2))))
theorem impl_yterm_v1.v_ev (a0 : T24) (a1 : (List T74)) (a2 : Int) (a3 : Int) (a4 : Int) (a5 : ByteArray) (a6 : ByteArray) (a7 : (List T22)) (a8 : (List ByteArray)) (f_a0 : fitSh S24 a0) (f_a1 : fitSh (.list S74) a1) (f_a2 : fitSh (.int .i64) a2) (f_a3 : fitSh (.int .i64) a3) (f_a4 : fitSh (.int .i64) a4) (f_a5 : fitSh .str a5) (f_a6 : fitSh .str a6) (f_a7 : fitSh (.list S22) a7) (f_a8 : fitSh (.list .str) a8) : EvF (.int .i64) (fun K _ => impl_yterm_v1.f K a0 a1 a2 a3 a4 a5 a6 a7 a8) (impl_yterm_v1.v a0 a1 a2 a3 a4 a5 a6 a7 a8) := by
  unfold impl_yterm_v1.v
  exact EvF.fn (fun k => impl_yterm_v1.f_eq k a0 a1 a2 a3 a4 a5 a6 a7 a8) (EvF.bind (impl_yterm_1_v1.v_ev _ _ _ _ _ _ _ _ _ (f_a0.1) (f_a1) (f_a2) (f_a3) (f_a4) (f_a5) (f_a6) (f_a7) (f_a8)) fun f_t0 => (EvF.ite (fun h0 => (EvF.ite (fun h1 => (EvF.bind (impl_CompareAtoms.v_ev _ _ (f_t0.1) (f_a0.2.2.2.1)) fun f_t1 => (EvF.ite (fun h2 => (EvF.bind (impl_ysure.v_ev _ (fit_bool _)) fun f_t2 => (EvF.now (f_t2)))) fun h2 => (EvF.ite (fun h3 => (EvF.bind (impl_ysure.v_ev _ (fit_bool _)) fun f_t2 => (EvF.now (f_t2)))) fun h3 => (EvF.ite (fun h4 => (EvF.ite (fun h5 => (EvF.bind (impl_ysure.v_ev _ (fit_bool _)) fun f_t2 => (EvF.now (f_t2)))) fun h5 => (EvF.bind (impl_ysure.v_ev _ (fit_bool _)) fun f_t2 => (EvF.now (f_t2))))) fun h4 => (EvF.bind (impl_AddrIn.v_ev _ _ (f_t0.1) (f_a0.2.2.2.1)) fun f_t2 => (EvF.bind (impl_ysure.v_ev _ (fit_bool _)) fun f_t3 => (EvF.now (f_t3))))))))) fun h1 => (EvF.now ((fit_wfb rfl))))) fun h0 => (EvF.bind (impl_yterm_1_v1.v_ev _ _ _ _ _ _ _ _ _ (f_a0.2.2.1) (f_a1) (f_a2) (f_a3) (f_a4) (f_a5) (f_a6) (f_a7) (f_a8)) fun f_t1 => (EvF.ite (fun h1 => (EvF.ite (fun h2 => (EvF.bind (impl_CompareAtoms.v_ev _ _ (f_t0.1) (f_t1.1)) fun f_t2 => (EvF.ite (fun h3 => (EvF.bind (impl_ysure.v_ev _ (fit_bool _)) fun f_t3 => (EvF.now (f_t3)))) fun h3 => (EvF.ite (fun h4 => (EvF.bind (impl_ysure.v_ev _ (fit_bool _)) fun f_t3 => (EvF.now (f_t3)))) fun h4 => (EvF.ite (fun h5 => (EvF.ite (fun h6 => (EvF.bind (impl_ysure.v_ev _ (fit_bool _)) fun f_t3 => (EvF.now (f_t3)))) fun h6 => (EvF.bind (impl_ysure.v_ev _ (fit_bool _)) fun f_t3 => (EvF.now (f_t3))))) fun h5 => (EvF.bind (impl_AddrIn.v_ev _ _ (f_t0.1) (f_t1.1)) fun f_t3 => (EvF.bind (impl_ysure.v_ev _ (fit_bool _)) fun f_t4 => (EvF.now (f_t4))))))))) fun h2 => (EvF.now ((fit_wfb rfl))))) fun h1 => (EvF.now ((fit_wfb rfl)))))))

theorem sideC_same (ps : List T74) (v : T29) (n : ByteArray) (hp : v.2.2.2.1.length ≤ v.2.2.1.length) : impl_yterm_1_v1.v n ps v.1 v.2.1.1 v.2.1.2.1 v.2.1.2.2.1 v.2.1.2.2.2.1 v.2.2.1 v.2.2.2.1 = spec_l6Value.v ps v n := by
  unfold impl_yterm_1_v1.v spec_l6Value.v impl_CaveatHolds_1.v
  rw [param_same, item_same _ _ (by exact hp)]
theorem termC_same (t : T24) (ps : List T74) (v : T29) (hp : v.2.2.2.1.length ≤ v.2.2.1.length) : impl_yterm_v1.v t ps v.1 v.2.1.1 v.2.1.2.1 v.2.1.2.2.1 v.2.1.2.2.2.1 v.2.2.1 v.2.2.2.1 = spec_l6Term.v t ps v := by
  unfold impl_yterm_v1.v spec_l6Term.v
  simp only [sideC_same _ _ _ hp, compare_same, sure_same]
theorem said_rng (b : Bool) : spec_l3Said.v b = 0 ∨ spec_l3Said.v b = 1 ∨ spec_l3Said.v b = 2 := by cases b <;> simp [spec_l3Said.v]
theorem yterm_rng (a0 : T24) (a1 : List T74) (a2 a3 a4 : Int) (a5 a6 : ByteArray) (a7 : List T22) (a8 : List ByteArray) : impl_yterm_v1.v a0 a1 a2 a3 a4 a5 a6 a7 a8 = 0 ∨ impl_yterm_v1.v a0 a1 a2 a3 a4 a5 a6 a7 a8 = 1 ∨ impl_yterm_v1.v a0 a1 a2 a3 a4 a5 a6 a7 a8 = 2 := by
  unfold impl_yterm_v1.v
  simp only [sure_same]
  have two : ((2 : Int) = 0 ∨ (2 : Int) = 1 ∨ (2 : Int) = 2) := by decide
  repeat' (first | exact said_rng _ | exact two | split)
theorem yterm_two {a0 : T24} {a1 : List T74} {a2 a3 a4 : Int} {a5 a6 : ByteArray} {a7 : List T22} {a8 : List ByteArray} (h0 : ¬ impl_yterm_v1.v a0 a1 a2 a3 a4 a5 a6 a7 a8 = 0) (h1 : ¬ impl_yterm_v1.v a0 a1 a2 a3 a4 a5 a6 a7 a8 = 1) : impl_yterm_v1.v a0 a1 a2 a3 a4 a5 a6 a7 a8 = 2 := by
  rcases yterm_rng a0 a1 a2 a3 a4 a5 a6 a7 a8 with h | h | h
  · exact absurd h h0
  · exact absurd h h1
  · exact h
def impl_ycaveat.l8.v (x1_0_0 : Int) (x1_0_1 : Int) (x1_0_2 : Int) (x1_0_3 : ByteArray) (x1_0_4 : ByteArray) (x1_0_5 : (List T22)) (x1_0_6 : (List ByteArray)) (y0_1 : (List T74))  : List T24 → Nat → Bool → Bool → Bool → Int
  | [], i, y1_0, y1_1, y1_2 => (if y1_0 = true then 0 else (if y1_2 = true then 2 else 1))
  | e :: rest, i, y1_0, y1_1, y1_2 => (let t0 := impl_yterm_v1.v e y0_1 x1_0_0 x1_0_1 x1_0_2 x1_0_3 x1_0_4 x1_0_5 x1_0_6; (if (t0 : Int) = 0 then (impl_ycaveat.l8.v x1_0_0 x1_0_1 x1_0_2 x1_0_3 x1_0_4 x1_0_5 x1_0_6 y0_1 rest (i + 1) true y1_1 y1_2) else (if (t0 : Int) = 1 then (impl_ycaveat.l8.v x1_0_0 x1_0_1 x1_0_2 x1_0_3 x1_0_4 x1_0_5 x1_0_6 y0_1 rest (i + 1) y1_0 true y1_2) else (impl_ycaveat.l8.v x1_0_0 x1_0_1 x1_0_2 x1_0_3 x1_0_4 x1_0_5 x1_0_6 y0_1 rest (i + 1) y1_0 y1_1 true))))
theorem impl_ycaveat.l8.v_ev (x1_0_0 : Int) (x1_0_1 : Int) (x1_0_2 : Int) (x1_0_3 : ByteArray) (x1_0_4 : ByteArray) (x1_0_5 : (List T22)) (x1_0_6 : (List ByteArray)) (x9 : (List T24)) (y0_0 : ByteArray) (y0_1 : (List T74)) (f_x1_0_0 : fitSh (.int .i64) x1_0_0) (f_x1_0_1 : fitSh (.int .i64) x1_0_1) (f_x1_0_2 : fitSh (.int .i64) x1_0_2) (f_x1_0_3 : fitSh .str x1_0_3) (f_x1_0_4 : fitSh .str x1_0_4) (f_x1_0_5 : fitSh (.list S22) x1_0_5) (f_x1_0_6 : fitSh (.list .str) x1_0_6) (f_x9 : fitSh (.list S24) x9) (f_y0_0 : fitSh .str y0_0) (f_y0_1 : fitSh (.list S74) y0_1)  : ∀ (rest : List T24) (i : Nat) (y1_0 : Bool) (y1_1 : Bool) (y1_2 : Bool)  (f_y1_0 : fitSh .bool y1_0) (f_y1_1 : fitSh .bool y1_1) (f_y1_2 : fitSh .bool y1_2), x9.drop i = rest → EvF (.int .i64) (fun K j => impl_ycaveat.l8 K j x1_0_0 x1_0_1 x1_0_2 x1_0_3 x1_0_4 x1_0_5 x1_0_6 x9 (x9.length : Int) (i : Int) y0_0 y0_1 x9 y1_0 y1_1 y1_2) (impl_ycaveat.l8.v x1_0_0 x1_0_1 x1_0_2 x1_0_3 x1_0_4 x1_0_5 x1_0_6 y0_1 rest i y1_0 y1_1 y1_2) := by
  have bX : x9.length ≤ 140737488351232 := f_x9.1
  intro rest
  induction rest with
  | nil =>
    intro i y1_0 y1_1 y1_2 f_y1_0 f_y1_1 f_y1_2 hd
    have hz := drop_none hd
    unfold impl_ycaveat.l8.v
    exact EvF.lp (fun K j => impl_ycaveat.l8_eq K j x1_0_0 x1_0_1 x1_0_2 x1_0_3 x1_0_4 x1_0_5 x1_0_6 x9 (x9.length : Int) (i : Int) y0_0 y0_1 x9 y1_0 y1_1 y1_2) (EvF.no (by omega) (EvF.ite (fun h0 => (EvF.now ((fit_wfb rfl)))) fun h0 => (EvF.ite (fun h1 => (EvF.now ((fit_wfb rfl)))) fun h1 => (EvF.now ((fit_wfb rfl))))))
  | cons e rest ih =>
    intro i y1_0 y1_1 y1_2 f_y1_0 f_y1_1 f_y1_2 hd
    obtain ⟨hlt, hd2, hx⟩ := drop_more hd
    have f_e : fitSh S24 e := hx (dflt S24) ▸ fit_rd f_x9 _
    have f_i : fitSh (.int .i64) (i : Int) := fit_len (by omega)
    unfold impl_ycaveat.l8.v
    refine EvF.lp (fun K j => impl_ycaveat.l8_eq K j x1_0_0 x1_0_1 x1_0_2 x1_0_3 x1_0_4 x1_0_5 x1_0_6 x9 (x9.length : Int) (i : Int) y0_0 y0_1 x9 y1_0 y1_1 y1_2) (EvF.yes (by omega) ?_)
    try rw [hx]
    try rw [wrap_nat (i := i) (by omega)]
    exact (EvF.yes (by first | omega | exact yterm_two (by assumption) (by assumption) | (simp only [wrap64] at *; omega)) (EvF.bind (impl_yterm_v1.v_ev _ _ _ _ _ _ _ _ _ (f_e) (f_y0_1) (f_x1_0_0) (f_x1_0_1) (f_x1_0_2) (f_x1_0_3) (f_x1_0_4) (f_x1_0_5) (f_x1_0_6)) fun f_t0 => (EvF.ite (fun h0 => (ih (i + 1) _ _ _ (fit_bool _) (fit_bool _) (fit_bool _) hd2)) fun h0 => (EvF.ite (fun h1 => (ih (i + 1) _ _ _ (fit_bool _) (fit_bool _) (fit_bool _) hd2)) fun h1 => (EvF.yes (by first | omega | exact yterm_two (by assumption) (by assumption) | (simp only [wrap64] at *; omega)) (ih (i + 1) _ _ _ (fit_bool _) (fit_bool _) (fit_bool _) hd2))))))
def impl_ycaveat.v (a0 : T49) (a1 : Int) (a2 : Int) (a3 : Int) (a4 : ByteArray) (a5 : ByteArray) (a6 : (List T22)) (a7 : (List ByteArray)) : Int :=
  (impl_ycaveat.l8.v a1 a2 a3 a4 a5 a6 a7 a0.2.1 a0.2.2.1 0 false false false)
theorem impl_ycaveat.v_ev (a0 : T49) (a1 : Int) (a2 : Int) (a3 : Int) (a4 : ByteArray) (a5 : ByteArray) (a6 : (List T22)) (a7 : (List ByteArray)) (f_a0 : fitSh S49 a0) (f_a1 : fitSh (.int .i64) a1) (f_a2 : fitSh (.int .i64) a2) (f_a3 : fitSh (.int .i64) a3) (f_a4 : fitSh .str a4) (f_a5 : fitSh .str a5) (f_a6 : fitSh (.list S22) a6) (f_a7 : fitSh (.list .str) a7) : EvF (.int .i64) (fun K _ => impl_ycaveat.f K a0 a1 a2 a3 a4 a5 a6 a7) (impl_ycaveat.v a0 a1 a2 a3 a4 a5 a6 a7) := by
  unfold impl_ycaveat.v
  exact EvF.fn (fun k => impl_ycaveat.f_eq k a0 a1 a2 a3 a4 a5 a6 a7) (EvF.diag (impl_ycaveat.l8.v_ev a1 a2 a3 a4 a5 a6 a7 a0.2.2.1 a0.1 a0.2.1 (f_a1) (f_a2) (f_a3) (f_a4) (f_a5) (f_a6) (f_a7) (f_a0.2.2.1) (f_a0.1) (f_a0.2.1)  _ 0 false false false (fit_bool _) (fit_bool _) (fit_bool _)  rfl))
def impl_CaveatHolds.v (a0 : T49) (a1 : T29) : Int :=
  (let t0 := impl_ygoodRecord.v a1; (if t0 = true then (let t1 := impl_GoodCaveat.v a0; (if t1 = true then (impl_ycaveat.v a0 a1.1 a1.2.1.1 a1.2.1.2.1 a1.2.1.2.2.1 a1.2.1.2.2.2.1 a1.2.2.1 a1.2.2.2.1) else (-1))) else (-1)))
theorem impl_CaveatHolds.v_ev (a0 : T49) (a1 : T29) (f_a0 : fitSh S49 a0) (f_a1 : fitSh S29 a1) : EvF (.int .i64) (fun K _ => impl_CaveatHolds.f K a0 a1) (impl_CaveatHolds.v a0 a1) := by
  unfold impl_CaveatHolds.v
  exact EvF.fn (fun k => impl_CaveatHolds.f_eq k a0 a1) (EvF.bind (impl_ygoodRecord.v_ev _ (f_a1)) fun f_t0 => (EvF.ite (fun h0 => (EvF.bind (impl_GoodCaveat.v_ev _ (f_a0)) fun f_t1 => (EvF.ite (fun h1 => (EvF.bind (impl_ycaveat.v_ev _ _ _ _ _ _ _ _ (f_a0) (f_a1.1) (f_a1.2.1.1) (f_a1.2.1.2.1) (f_a1.2.1.2.2.1) (f_a1.2.1.2.2.2.1) (f_a1.2.2.1) (f_a1.2.2.2.1)) fun f_t2 => (EvF.now (f_t2)))) fun h1 => (EvF.now ((fit_wfb rfl)))))) fun h0 => (EvF.now ((fit_wfb rfl)))))

theorem holds_loop (ps : List T74) (v : T29) (hp : v.2.2.2.1.length ≤ v.2.2.1.length) : ∀ (rest : List T24) (i : Nat) (s0 s1 s2 : Bool),
    impl_ycaveat.l8.v v.1 v.2.1.1 v.2.1.2.1 v.2.1.2.2.1 v.2.1.2.2.2.1 v.2.2.1 v.2.2.2.1 ps rest i s0 s1 s2 = spec_l6Holds.l8.v ps v.1 v.2.1.1 v.2.1.2.1 v.2.1.2.2.1 v.2.1.2.2.2.1 v.2.2.1 v.2.2.2.1 rest i (if s0 = true then 0 else if s2 = true then 2 else 1)
  | [], i, s0, s1, s2 => by unfold impl_ycaveat.l8.v spec_l6Holds.l8.v; rfl
  | e :: rest, i, s0, s1, s2 => by
    unfold impl_ycaveat.l8.v spec_l6Holds.l8.v
    simp only [holds_loop ps v hp rest]
    have hr := yterm_rng e ps v.1 v.2.1.1 v.2.1.2.1 v.2.1.2.2.1 v.2.1.2.2.2.1 v.2.2.1 v.2.2.2.1
    rw [termC_same e ps v hp] at *
    rw [show ((v.1, ((v.2.1.1, (v.2.1.2.1, (v.2.1.2.2.1, (v.2.1.2.2.2.1, ())))), (v.2.2.1, (v.2.2.2.1, ())))) : T29) = v from rfl]
    generalize spec_l6Term.v e ps v = t at *
    rcases hr with rfl | rfl | rfl
    · simp
    · simp
    · cases s0 <;> cases s2 <;> simp
theorem holds_same (c : T49) (v : T29) (hp : v.2.2.2.1.length ≤ v.2.2.1.length) : impl_ycaveat.v c v.1 v.2.1.1 v.2.1.2.1 v.2.1.2.2.1 v.2.1.2.2.2.1 v.2.2.1 v.2.2.2.1 = spec_l6Holds.v c v := by
  unfold impl_ycaveat.v spec_l6Holds.v
  rw [holds_loop c.2.1 v hp]; rfl
theorem caveatHolds_same (c : T49) (v : T29) : impl_CaveatHolds.v c v = spec_CaveatHolds.v c v := by
  unfold impl_CaveatHolds.v spec_CaveatHolds.v
  rw [record_same, caveat_same]
  by_cases h : spec_l6Record.v v = true
  · dsimp only
    rw [if_pos h, if_pos h, holds_same c v (l6record_len h)]
  · dsimp only
    rw [if_neg h, if_neg h]; simp
theorem Pure.FnExactCaveatHolds : laws_FnExactCaveatHolds.Pure := by
  intro c v fc fv
  apply Ev.rounds
  obtain ⟨z, e, _, _, hz⟩ := szCaveat_ok c 1048576 (by omega) (by omega) fc
  refine Ev.fn (fun k => laws_FnExactCaveatHolds.f_eq k c v) (e.bind (Ev.ite (fun _ => Ev.now _) fun h => ?_))
  obtain ⟨z2, e2, _, _, hz2⟩ := szValue_ok v z (by omega) (by omega) fv
  refine e2.bind (Ev.ite (fun _ => Ev.now _) fun h2 => ?_)
  have s1 := hz (by omega)
  have s2 := hz2 (by omega)
  exact (toCaveat_ev c s1).bind ((toValue_ev v s2).bind ((spec_CaveatHolds.v_ev c v fc fv).1.bind ((toCaveat_ev c s1).bind ((toValue_ev v s2).bind ((impl_CaveatHolds.v_ev c v fc fv).1.bind
    (Ev.yes (caveatHolds_same c v) ((toCaveat_ev c s1).bind ((eqCaveat_ev c s1).bind (Ev.yes rfl ((toValue_ev v s2).bind ((eqValue_ev v s2).bind (Ev.yes rfl (Ev.now _)))))))))))))

end Go.Proofs.Ytbkeooaepmiafaa.PA
