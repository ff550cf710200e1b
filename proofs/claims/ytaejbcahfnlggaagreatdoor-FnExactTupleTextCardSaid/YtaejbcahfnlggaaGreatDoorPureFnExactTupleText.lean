-- The plain law of this claim: no program in sight but the equations of its functions.
import Derived.Test.YtaejbcahfnlggaaGreatDoorFitFnExactTupleText
import Derived.Test.YtaejbcahfnlggaaGreatDoorDenP
namespace Go.Proofs.YtaejbcahfnlggaaGreatDoor.PU
open Go Go.Den
open Go.RowKit (wrap64)
set_option linter.unusedVariables false
set_option linter.unusedSimpArgs false
set_option linter.unusedSectionVars false
set_option maxRecDepth 20000
/-! ### values beside their measure -/
theorem wf_range {k : IntKind} {x : Int} (h : k.min ≤ x ∧ x ≤ k.max) : (Lit.int k x).wf = true := by
  simp [Lit.wf]; exact h
theorem fit_bool (b : Bool) : fitSh .bool b := trivial
theorem fit_unit : fitSh .unit () := trivial
theorem fit_pair {a b : Sh} {x : sem a} {y : sem b} (h : fitSh a x) (g : fitSh b y) : fitSh (.pair a b) (x, y) := ⟨h, g⟩
theorem fit_lst {t : Sh} {l : List (sem t)} (h : l.length ≤ 140737488351232) (g : allIn (α := sem t) l (fitSh t)) : fitSh (.list t) l := ⟨h, g⟩
theorem fit_dflt : ∀ s : Sh, fitSh s (dflt s)
  | .int k => by cases k <;> rfl
  | .bool => trivial
  | .str => by show (0 : Nat) ≤ _; omega
  | .unit => trivial
  | .pair a b => ⟨fit_dflt a, fit_dflt b⟩
  | .list t => ⟨Nat.zero_le _, fun x hx => by cases hx⟩
  | .rose t => trivial
theorem fit_rd {t : Sh} {l : List (sem t)} (h : fitSh (.list t) l) (i : Int) : fitSh t (rd (dflt t) l i) := by
  unfold rd
  rw [List.getD_eq_getElem?_getD]
  cases hi : l[i.toNat]? with
  | none => exact fit_dflt t
  | some x => exact h.2 x (List.mem_of_getElem? hi)
theorem fit_cut {t : Sh} {l : List (sem t)} (h : fitSh (.list t) l) (a b : Int) : fitSh (.list t) (cut l a b) := by
  unfold cut
  refine ⟨?_, fun x hx => h.2 x (List.mem_of_mem_take (List.mem_of_mem_drop hx))⟩
  have h1 : l.length ≤ 140737488351232 := h.1
  show List.length _ ≤ _
  rw [List.length_drop, List.length_take]; omega
theorem fit_nil {t : Sh} : fitSh (.list t) ([] : List (sem t)) := ⟨Nat.zero_le _, fun x hx => by cases hx⟩
theorem fit_cons {t : Sh} {x : sem t} {l : List (sem t)} (hx : fitSh t x) (h : allIn (α := sem t) l (fitSh t)) : allIn (α := sem t) (x :: l) (fitSh t) := fun y hy => by
  rcases List.mem_cons.1 hy with rfl | hy
  · exact hx
  · exact h y hy
theorem fit_cutS {s : ByteArray} (h : fitSh .str s) (a b : Int) : fitSh .str (cutS s a b) := by
  have h : s.size ≤ 140737488351232 := h
  show (s.extract a.toNat b.toNat).size ≤ _
  rw [ByteArray.size_extract]; omega
theorem fit_len {n : Nat} (h : n ≤ 140737488351232) : fitSh (.int .i64) (n : Int) := wf_range (by simp only [IntKind.min, IntKind.max, IntKind.signed, IntKind.bits]; constructor <;> simp <;> omega)
theorem fit_wrap (x : Int) : fitSh (.int .i64) (wrap64 x) := wf_range (by simp only [IntKind.min, IntKind.max, IntKind.signed, IntKind.bits]; unfold wrap64; constructor <;> simp <;> omega)
theorem fit_i64 {x : Int} (h : -9223372036854775808 ≤ x ∧ x ≤ 9223372036854775807) : fitSh (.int .i64) x := wf_range (by simp only [IntKind.min, IntKind.max, IntKind.signed, IntKind.bits]; constructor <;> simp <;> omega)
theorem i64_of {x : Int} (h : fitSh (.int .i64) x) : -9223372036854775808 ≤ x ∧ x ≤ 9223372036854775807 := by
  have h : (Lit.int .i64 x).wf = true := h
  simp [Lit.wf, IntKind.min, IntKind.max, IntKind.signed, IntKind.bits] at h
  omega
theorem fit_bytes {s : ByteArray} (h : Nat.ble s.size 140737488351232 = true) : fitSh .str s := Nat.le_of_ble_eq_true h
theorem fit_u8 {x : Int} (h : 0 ≤ x ∧ x ≤ 255) : fitSh (.int .u8) x := wf_range (by simp only [IntKind.min, IntKind.max, IntKind.signed, IntKind.bits]; constructor <;> simp <;> omega)
theorem fit_bt (s : ByteArray) (i : Int) : fitSh (.int .u8) (bt s i) := fit_u8 (bt_range s i)
theorem fit_wfb {k : IntKind} {x : Int} (h : (Lit.int k x).wf = true) : fitSh (.int k) x := h
def EvF (s : Sh) (g : Nat → Nat → Option (sem s)) (r : sem s) : Prop := Ev g r ∧ fitSh s r
section
variable {s s' : Sh} {r : sem s}
theorem EvF.some {a : sem s} (h : a = r) (f : fitSh s r) : EvF s (fun _ _ => Option.some a) r := ⟨Ev.some h, f⟩
theorem EvF.now (f : fitSh s r) : EvF s (fun _ _ => Option.some r) r := ⟨Ev.now r, f⟩
theorem EvF.yes {c : Prop} {inst : Decidable c} {A B : Nat → Nat → Option (sem s)} (h : c) (k : EvF s A r) : EvF s (fun K j => @ite _ c inst (A K j) (B K j)) r := ⟨k.1.congr fun _ _ => if_pos h, k.2⟩
theorem EvF.no {c : Prop} {inst : Decidable c} {A B : Nat → Nat → Option (sem s)} (h : ¬ c) (k : EvF s B r) : EvF s (fun K j => @ite _ c inst (A K j) (B K j)) r := ⟨k.1.congr fun _ _ => if_neg h, k.2⟩
theorem EvF.ite {c : Prop} {inst : Decidable c} {A B : Nat → Nat → Option (sem s)} {x y : sem s} (h : c → EvF s A x) (k : ¬ c → EvF s B y) : EvF s (fun K j => @ite _ c inst (A K j) (B K j)) (@ite _ c inst x y) := by
  by_cases e : c
  · rw [if_pos e]; exact EvF.yes e (h e)
  · rw [if_neg e]; exact EvF.no e (k e)
theorem EvF.bind {g : Nat → Nat → Option (sem s')} {f : Nat → Nat → sem s' → Option (sem s)} {a : sem s'} (h : EvF s' g a) (k : fitSh s' a → EvF s (fun K j => f K j a) r) : EvF s (fun K j => (g K j).bind (f K j)) r :=
  ⟨h.1.bind (k h.2).1, (k h.2).2⟩
theorem EvF.fn {f B : Nat → Option (sem s)} (e : ∀ k, f (k + 1) = B k) (h : EvF s (fun K _ => B K) r) : EvF s (fun K _ => f K) r := ⟨Ev.fn e h.1, h.2⟩
theorem EvF.lp {L B : Nat → Nat → Option (sem s)} (e : ∀ K j, L K (j + 1) = B K j) (h : EvF s B r) : EvF s L r := ⟨Ev.lp e h.1, h.2⟩
theorem EvF.diag {L : Nat → Nat → Option (sem s)} (h : EvF s L r) : EvF s (fun K _ => L K K) r := ⟨Ev.diag h.1, h.2⟩
end
theorem drop_more {α : Type} {l : List α} {i : Nat} {x : α} {r : List α} (h : l.drop i = x :: r) : i < l.length ∧ l.drop (i + 1) = r ∧ ∀ z, rd z l (i : Int) = x := by
  have hi : i < l.length := by
    rcases Nat.lt_or_ge i l.length with q | q
    · exact q
    · rw [List.drop_eq_nil_of_le q] at h; cases h
  rw [List.drop_eq_getElem_cons hi] at h
  obtain ⟨h1, h2⟩ := List.cons.inj h
  exact ⟨hi, h2, fun z => by rw [rd_at z l i hi]; exact h1⟩
theorem drop_none {α : Type} {l : List α} {i : Nat} (h : l.drop i = []) : l.length ≤ i := by
  have := congrArg List.length h
  rw [List.length_drop] at this
  simp at this; omega
theorem bdrop_more {s : ByteArray} {i : Nat} {x : Int} {r : List Int} (h : (bytesOf s).drop i = x :: r) : i < s.size ∧ (bytesOf s).drop (i + 1) = r ∧ bt s (i : Int) = x := by
  have hi : i < s.size := by
    rcases Nat.lt_or_ge i s.size with q | q
    · exact q
    · rw [List.drop_eq_nil_of_le (by rw [bytesOf_length]; exact q)] at h; cases h
  rw [drop_bytes s i hi] at h
  obtain ⟨h1, h2⟩ := List.cons.inj h
  exact ⟨hi, h2, h1⟩
theorem bdrop_none {s : ByteArray} {i : Nat} (h : (bytesOf s).drop i = []) : s.size ≤ i := by
  have := congrArg List.length h
  rw [List.length_drop, bytesOf_length] at this
  simp at this; omega

/-! ### a whole number's text -/
theorem appS_mk (a b : List UInt8) : appS ⟨a.toArray⟩ ⟨b.toArray⟩ = ⟨(a ++ b).toArray⟩ := by
  unfold appS
  apply ByteArray.ext
  simp
theorem appS_size (a b : ByteArray) : (appS a b).size = a.size + b.size := by
  unfold appS
  exact ByteArray.size_append
theorem dec_step (u : Nat) (h : ¬ u < 10) : Go.Lib.decDigits u = Go.Lib.decDigits (u / 10) ++ [UInt8.ofNat (48 + u % 10)] := by
  rw [Go.Lib.decDigits, dif_neg h]
theorem dec_len : ∀ (k u : Nat), u < 10 ^ (k + 1) → (Go.Lib.decDigits u).length ≤ k + 1
  | 0, u, h => by rw [Go.Lib.decDigits_one (by simpa using h)]; simp
  | k + 1, u, h => by
    by_cases hu : u < 10
    · rw [Go.Lib.decDigits_one hu]; simp
    · rw [dec_step u hu, List.length_append]
      have := dec_len k (u / 10) (by
        rw [Nat.pow_succ] at h
        exact Nat.div_lt_of_lt_mul (by rw [Nat.mul_comm]; exact h))
      simp; omega
theorem itoaS_nat (u : Nat) : itoaS (u : Int) = ⟨(Go.Lib.decDigits u).toArray⟩ := by
  unfold itoaS Go.Lib.itoa
  rw [if_neg (by omega)]; simp
def numD (u : Nat) : List UInt8 := if u = 0 then [] else Go.Lib.decDigits u
theorem numD_step (u : Nat) (h : u ≠ 0) : numD u = numD (u / 10) ++ [UInt8.ofNat (48 + u % 10)] := by
  unfold numD
  rw [if_neg h]
  by_cases hu : u < 10
  · rw [if_pos (by omega), Go.Lib.decDigits_one hu, Nat.mod_eq_of_lt hu]; rfl
  · rw [if_neg (by omega), dec_step u hu]
theorem utfB_one (n : Nat) (h : n < 256) : utfB [(n : Int)] = ⟨[UInt8.ofNat n].toArray⟩ := by
  unfold utfB
  simp
theorem pow_down {u k : Nat} (h : u < 10 ^ (k + 1)) : u / 10 < 10 ^ k := by
  rw [Nat.pow_succ] at h
  exact Nat.div_lt_of_lt_mul (by rw [Nat.mul_comm]; exact h)
theorem spec_l14 : ∀ (k u : Nat) (acc : List UInt8), u < 10 ^ k → u ≤ 9223372036854775807 → acc.length + k ≤ 1000 → Ev (fun K j => spec_l1Size.l14 K j (u : Int) ⟨acc.toArray⟩) ⟨(numD u ++ acc).toArray⟩ := by
  intro k
  induction k with
  | zero =>
    intro u acc h _ _
    obtain rfl : u = 0 := by simpa using h
    exact Ev.lp (fun K j => spec_l1Size.l14_eq K j _ _) (Ev.yes rfl (Ev.now _))
  | succ k ih =>
    intro u acc hk hu ha
    refine Ev.lp (fun K j => spec_l1Size.l14_eq K j _ _) ?_
    by_cases h0 : u = 0
    · subst h0
      exact Ev.yes rfl (Ev.now _)
    · have e1 : remI (u : Int) 10 = ((u % 10 : Nat) : Int) := by
        unfold remI
        rw [Int.tmod_eq_emod_of_nonneg (by omega)]; omega
      have e2 : wrap64 (quoI (u : Int) 10) = ((u / 10 : Nat) : Int) := by
        unfold quoI
        rw [Int.tdiv_eq_ediv_of_nonneg (by omega), wrap_id (by omega) (by omega)]; omega
      have e3 : wr .u8 (wrap64 (48 + ((u % 10 : Nat) : Int))) = ((48 + u % 10 : Nat) : Int) := by
        rw [wrap_id (by omega) (by omega)]
        show IntKind.u8.wrap _ = _
        rw [IntKind.wrap_u8]; omega
      rw [e1, e2, e3]
      have hsz : (utfB [((48 + u % 10 : Nat) : Int)]).size + (⟨acc.toArray⟩ : ByteArray).size ≤ lim := by
        rw [utfB_one _ (by omega)]
        show 1 + acc.length ≤ 4611686018427387904
        omega
      refine Ev.no (by omega) (Ev.no (by omega) (Ev.yes hsz ?_))
      rw [utfB_one _ (by omega), appS_mk]
      have z := ih (u / 10) ([UInt8.ofNat (48 + u % 10)] ++ acc) (pow_down hk) (by omega) (by simp; omega)
      rw [← List.append_assoc, ← numD_step u h0] at z
      exact z
/-! below 0 -/
theorem spec_l14n : ∀ (k u : Nat) (acc : List UInt8), u < 10 ^ k → u ≤ 9223372036854775808 → acc.length + k ≤ 1000 → Ev (fun K j => spec_l1Size.l14 K j (-(u : Int)) ⟨acc.toArray⟩) ⟨(numD u ++ acc).toArray⟩ := by
  intro k
  induction k with
  | zero =>
    intro u acc h _ _
    obtain rfl : u = 0 := by simpa using h
    exact Ev.lp (fun K j => spec_l1Size.l14_eq K j _ _) (Ev.yes rfl (Ev.now _))
  | succ k ih =>
    intro u acc hk hu ha
    refine Ev.lp (fun K j => spec_l1Size.l14_eq K j _ _) ?_
    by_cases h0 : u = 0
    · subst h0
      exact Ev.yes rfl (Ev.now _)
    · have e1 : remI (-(u : Int)) 10 = -((u % 10 : Nat) : Int) := by
        unfold remI
        rw [Int.neg_tmod, Int.tmod_eq_emod_of_nonneg (by omega)]; omega
      have e2 : wrap64 (quoI (-(u : Int)) 10) = -((u / 10 : Nat) : Int) := by
        unfold quoI
        rw [Int.neg_tdiv, Int.tdiv_eq_ediv_of_nonneg (by omega), wrap_id (by omega) (by omega)]; omega
      have e3 : ∀ x : Int, x = ((u % 10 : Nat) : Int) → wr .u8 (wrap64 (48 + x)) = ((48 + u % 10 : Nat) : Int) := fun x hx => by
        subst hx
        rw [wrap_id (by omega) (by omega)]
        show IntKind.u8.wrap _ = _
        rw [IntKind.wrap_u8]; omega
      have e4 : wrap64 (0 - -((u % 10 : Nat) : Int)) = ((u % 10 : Nat) : Int) := by rw [wrap_id (by omega) (by omega)]; omega
      have hsz : (utfB [((48 + u % 10 : Nat) : Int)]).size + (⟨acc.toArray⟩ : ByteArray).size ≤ lim := by
        rw [utfB_one _ (by omega)]
        show 1 + acc.length ≤ 4611686018427387904
        omega
      have z : Ev (fun K j => spec_l1Size.l14 K j (-((u / 10 : Nat) : Int)) (appS (utfB [((48 + u % 10 : Nat) : Int)]) ⟨acc.toArray⟩)) ⟨(numD u ++ acc).toArray⟩ := by
        rw [utfB_one _ (by omega), appS_mk]
        have z := ih (u / 10) ([UInt8.ofNat (48 + u % 10)] ++ acc) (pow_down hk) (by omega) (by simp; omega)
        rw [← List.append_assoc, ← numD_step u h0] at z
        exact z
      rw [e1, e2, e4]
      refine Ev.no (by omega) (Ev.ite (fun h => ?_) fun h => ?_)
      · rw [e3 _ rfl]; exact Ev.yes hsz z
      · rw [e3 _ (by omega)]; exact Ev.yes hsz z
/-- .. of every whole number -/
theorem spec_size_ev (n : Int) (h0 : -9223372036854775808 ≤ n) (h1 : n ≤ 9223372036854775807) : Ev (fun K _ => spec_l1Size.f K n) ⟨(Go.Lib.decDigits n.natAbs).toArray⟩ := by
  by_cases hn : n < 0
  · obtain ⟨u, rfl⟩ : ∃ u : Nat, n = -(u : Int) := ⟨n.natAbs, by omega⟩
    rw [Int.natAbs_neg, Int.natAbs_natCast]
    refine Ev.fn (fun k => spec_l1Size.f_eq k _) (Ev.no (by omega) ?_)
    have z := spec_l14n 19 u [] (by
      have : u ≤ 9223372036854775808 := by omega
      exact Nat.lt_of_le_of_lt this (by decide)) (by omega) (by simp)
    rw [List.append_nil] at z
    unfold numD at z
    rw [if_neg (by omega)] at z
    exact Ev.diag (L := fun K j => spec_l1Size.l14 K j (-(u : Int)) ⟨#[]⟩) z
  · obtain ⟨u, rfl⟩ : ∃ u : Nat, n = (u : Int) := ⟨n.toNat, by omega⟩
    rw [Int.natAbs_natCast]
    refine Ev.fn (fun k => spec_l1Size.f_eq k _) (Ev.ite (fun h => Ev.some ?_) fun h => ?_)
    · have : u = 0 := by omega
      subst this
      rw [Go.Lib.decDigits_one (by omega)]
      rfl
    · have z := spec_l14 19 u [] (by
        have : u ≤ 9223372036854775807 := by omega
        exact Nat.lt_of_le_of_lt this (by decide)) (by omega) (by simp)
      rw [List.append_nil] at z
      unfold numD at z
      rw [if_neg (by omega)] at z
      exact Ev.diag (L := fun K j => spec_l1Size.l14 K j (u : Int) ⟨#[]⟩) z
theorem dec_len19 (n : Nat) (h : n ≤ 9223372036854775808) : (Go.Lib.decDigits n).length ≤ 19 := dec_len 18 n (Nat.lt_of_le_of_lt h (by decide))
theorem spec_num_all (n : Int) (h0 : -9223372036854775808 ≤ n) (h1 : n ≤ 9223372036854775807) : Ev (fun K _ => spec_l1Num.f K n) (itoaS n) := by
  have z := spec_size_ev n h0 h1
  refine Ev.fn (fun k => spec_l1Num.f_eq k _) (Ev.ite (fun h => ?_) fun h => ?_)
  · have e : itoaS n = appS (⟨#[45]⟩ : ByteArray) ⟨(Go.Lib.decDigits n.natAbs).toArray⟩ := by
      unfold itoaS Go.Lib.itoa
      rw [if_pos h]
      exact (appS_mk [45] _).symm
    rw [e]
    refine Ev.bind z (Ev.yes ?_ (Ev.now _))
    have := dec_len19 n.natAbs (by omega)
    show 1 + (Go.Lib.decDigits n.natAbs).length ≤ 4611686018427387904
    omega
  · have e : itoaS n = ⟨(Go.Lib.decDigits n.natAbs).toArray⟩ := by
      unfold itoaS Go.Lib.itoa
      rw [if_neg h, show n.toNat = n.natAbs by omega]
    rw [e]
    exact Ev.tail z
theorem spec_num_ev (u : Nat) (hu : u ≤ 4000000000000000000) : Ev (fun K _ => spec_l1Num.f K (u : Int)) (itoaS (u : Int)) := spec_num_all _ (by omega) (by omega)

/-! ### good names -/
def pDigit (a : Int) : Bool := decide (48 ≤ a ∧ a ≤ 57)
def pLetter (a : Int) : Bool := decide (97 ≤ a ∧ a ≤ 122 ∨ 65 ≤ a ∧ a ≤ 90)
def pWord (a : Int) : Bool := pLetter a || pDigit a || decide (a = 95)
def goodName (s : ByteArray) : Bool := decide (1 ≤ s.size ∧ s.size ≤ 30) && !pDigit (bt s 0) && (bytesOf s).all pWord
theorem spec_l1Digit_ev (a : Int) : Ev (fun K _ => spec_l1Digit.f K a) (pDigit a) := by
  refine Ev.fn (fun k => spec_l1Digit.f_eq k a) ?_
  unfold pDigit
  exact Ev.ite (fun _ => Ev.some (by (first | rfl | exact decide_eq_decide.2 (by omega) | exact (decide_eq_false (by omega)).symm | exact (decide_eq_true (by omega)).symm))) fun _ => Ev.some (by (first | rfl | exact decide_eq_decide.2 (by omega) | exact (decide_eq_false (by omega)).symm | exact (decide_eq_true (by omega)).symm))
theorem impl_ydigit_ev (a : Int) : Ev (fun K _ => impl_ydigit.f K a) (pDigit a) := by
  refine Ev.fn (fun k => impl_ydigit.f_eq k a) ?_
  unfold pDigit
  exact Ev.ite (fun _ => Ev.some (by (first | rfl | exact decide_eq_decide.2 (by omega) | exact (decide_eq_false (by omega)).symm | exact (decide_eq_true (by omega)).symm))) fun _ => Ev.some (by (first | rfl | exact decide_eq_decide.2 (by omega) | exact (decide_eq_false (by omega)).symm | exact (decide_eq_true (by omega)).symm))
theorem spec_l1Letter_ev (a : Int) : Ev (fun K _ => spec_l1Letter.f K a) (pLetter a) := by
  refine Ev.fn (fun k => spec_l1Letter.f_eq k a) ?_
  unfold pLetter
  exact Ev.ite (fun _ => Ev.ite (fun _ => Ev.some (by (first | rfl | exact decide_eq_decide.2 (by omega) | exact (decide_eq_false (by omega)).symm | exact (decide_eq_true (by omega)).symm))) fun _ => Ev.ite (fun _ => Ev.some (by (first | rfl | exact decide_eq_decide.2 (by omega) | exact (decide_eq_false (by omega)).symm | exact (decide_eq_true (by omega)).symm))) fun _ => Ev.some (by (first | rfl | exact decide_eq_decide.2 (by omega) | exact (decide_eq_false (by omega)).symm | exact (decide_eq_true (by omega)).symm))) fun _ => Ev.ite (fun _ => Ev.some (by (first | rfl | exact decide_eq_decide.2 (by omega) | exact (decide_eq_false (by omega)).symm | exact (decide_eq_true (by omega)).symm))) fun _ => Ev.some (by (first | rfl | exact decide_eq_decide.2 (by omega) | exact (decide_eq_false (by omega)).symm | exact (decide_eq_true (by omega)).symm))
theorem impl_yletter_ev (a : Int) : Ev (fun K _ => impl_yletter.f K a) (pLetter a) := by
  refine Ev.fn (fun k => impl_yletter.f_eq k a) ?_
  unfold pLetter
  exact Ev.ite (fun _ => Ev.ite (fun _ => Ev.some (by (first | rfl | exact decide_eq_decide.2 (by omega) | exact (decide_eq_false (by omega)).symm | exact (decide_eq_true (by omega)).symm))) fun _ => Ev.ite (fun _ => Ev.some (by (first | rfl | exact decide_eq_decide.2 (by omega) | exact (decide_eq_false (by omega)).symm | exact (decide_eq_true (by omega)).symm))) fun _ => Ev.some (by (first | rfl | exact decide_eq_decide.2 (by omega) | exact (decide_eq_false (by omega)).symm | exact (decide_eq_true (by omega)).symm))) fun _ => Ev.ite (fun _ => Ev.some (by (first | rfl | exact decide_eq_decide.2 (by omega) | exact (decide_eq_false (by omega)).symm | exact (decide_eq_true (by omega)).symm))) fun _ => Ev.some (by (first | rfl | exact decide_eq_decide.2 (by omega) | exact (decide_eq_false (by omega)).symm | exact (decide_eq_true (by omega)).symm))
theorem impl_ywordByte_ev (a : Int) : Ev (fun K _ => impl_ywordByte.f K a) (pWord a) := by
  refine Ev.fn (fun k => impl_ywordByte.f_eq k a) ?_
  unfold pWord
  exact (impl_yletter_ev a).bind (Ev.ite (fun h => Ev.some (by rw [h]; rfl)) fun h => (impl_ydigit_ev a).bind (Ev.ite (fun g => Ev.some (by rw [g]; simp)) fun g => Ev.some (by rw [Bool.eq_false_iff.2 h, Bool.eq_false_iff.2 g]; rfl)))
theorem spec_GoodName_ev (s : ByteArray) (hs : s.size ≤ 140737488351232) : Ev (fun K _ => spec_GoodName.f K s) (goodName s) := by
  refine Ev.fn (fun k => spec_GoodName.f_eq k s) ?_
  unfold goodName
  refine Ev.ite (fun h => Ev.some (by rw [decide_eq_false (by omega)]; rfl)) fun h => Ev.ite (fun h' => Ev.some (by rw [decide_eq_false (by omega)]; rfl)) fun h' => Ev.yes (by omega) ((spec_l1Digit_ev _).bind ?_)
  rw [decide_eq_true (by omega), Bool.true_and]
  refine Ev.ite (fun g => Ev.some (by rw [g]; rfl)) fun g => ?_
  rw [Bool.eq_false_iff.2 g, Bool.not_false, Bool.true_and]
  refine Ev.diag (loop_all (L := fun K j i => spec_GoodName.l14 K j s i) (fun i h hp r hr => ?_) (fun i h hp => ?_) ?_)
  · refine Ev.lp (fun K j => spec_GoodName.l14_eq K j s i) (Ev.yes (by omega) (Ev.yes (by omega) ((spec_l1Letter_ev _).bind ?_)))
    rw [wrap_nat (by omega)]
    refine Ev.ite (fun _ => hr) fun h1 => Ev.yes (by omega) ((spec_l1Digit_ev _).bind (Ev.ite (fun _ => hr) fun h2 => Ev.yes (by omega) (Ev.ite (fun _ => hr) fun h3 => ?_)))
    exfalso
    unfold pWord at hp
    simp [h1, h2, h3] at hp
  · refine Ev.lp (fun K j => spec_GoodName.l14_eq K j s i) (Ev.yes (by omega) (Ev.yes (by omega) ((spec_l1Letter_ev _).bind ?_)))
    unfold pWord at hp
    simp only [Bool.or_eq_false_iff, decide_eq_false_iff_not] at hp
    exact Ev.no (by simp [hp.1.1]) (Ev.yes (by omega) ((spec_l1Digit_ev _).bind (Ev.no (by simp [hp.1.2]) (Ev.yes (by omega) (Ev.no hp.2 (Ev.now _))))))
  · exact Ev.lp (fun K j => spec_GoodName.l14_eq K j s _) (Ev.no (by omega) (Ev.now _))
theorem impl_GoodName_ev (s : ByteArray) (hs : s.size ≤ 140737488351232) : Ev (fun K _ => impl_GoodName.f K s) (goodName s) := by
  refine Ev.fn (fun k => impl_GoodName.f_eq k s) ?_
  unfold goodName
  refine Ev.ite (fun h => Ev.some (by rw [size_nil] at h; rw [decide_eq_false (by omega)]; rfl)) fun h => Ev.ite (fun h' => Ev.some (by rw [decide_eq_false (by omega)]; rfl)) fun h' => ?_
  rw [size_nil] at h
  refine Ev.yes (by omega) ((impl_ydigit_ev _).bind ?_)
  rw [decide_eq_true (by omega), Bool.true_and]
  refine Ev.ite (fun g => Ev.some (by rw [g]; rfl)) fun g => ?_
  rw [Bool.eq_false_iff.2 g, Bool.not_false, Bool.true_and]
  refine Ev.diag (loop_all (L := fun K j i => impl_GoodName.l14 K j s (s.size : Int) i) (fun i h hp r hr => ?_) (fun i h hp => ?_) ?_)
  · refine Ev.lp (fun K j => impl_GoodName.l14_eq K j s _ i) (Ev.yes (by omega) (Ev.yes (by omega) ((impl_ywordByte_ev _).bind (Ev.yes hp ?_))))
    rw [wrap_nat (by omega)]; exact hr
  · exact Ev.lp (fun K j => impl_GoodName.l14_eq K j s _ i) (Ev.yes (by omega) (Ev.yes (by omega) ((impl_ywordByte_ev _).bind (Ev.no (by simp [hp]) (Ev.now _)))))
  · exact Ev.lp (fun K j => impl_GoodName.l14_eq K j s _ _) (Ev.no (by omega) (Ev.now _))

/-! ### printed texts -/
def printed (s : ByteArray) : Bool := (bytesOf s).all fun b => decide (32 ≤ b ∧ b ≤ 126)
theorem spec_l1Printed_ev (s : ByteArray) (hs : s.size ≤ 140737488351232) : Ev (fun K _ => spec_l1Printed.f K s) (printed s) := by
  refine Ev.fn (fun k => spec_l1Printed.f_eq k s) (Ev.diag (loop_all (L := fun K j i => spec_l1Printed.l6 K j s i) (fun i h hp r hr => ?_) (fun i h hp => ?_) ?_))
  · have hp := of_decide_eq_true hp
    refine Ev.lp (fun K j => spec_l1Printed.l6_eq K j s i) (Ev.yes (by omega) (Ev.yes (by omega) (Ev.no (by omega) (Ev.yes (by omega) (Ev.no (by omega) ?_)))))
    rw [wrap_nat (by omega)]; exact hr
  · have hp := of_decide_eq_false hp
    exact Ev.lp (fun K j => spec_l1Printed.l6_eq K j s i) (Ev.yes (by omega) (Ev.yes (by omega) (Ev.ite (fun _ => Ev.now _) fun _ => Ev.yes (by omega) (Ev.yes (by omega) (Ev.now _)))))
  · exact Ev.lp (fun K j => spec_l1Printed.l6_eq K j s _) (Ev.no (by omega) (Ev.now _))
theorem impl_yprinted_ev (s : ByteArray) (lo hi : Int) (hs : s.size ≤ 140737488351232) : Ev (fun K _ => impl_yprinted.f K s lo hi) (decide (lo ≤ s.size ∧ (s.size : Int) ≤ hi) && printed s) := by
  refine Ev.fn (fun k => impl_yprinted.f_eq k s lo hi) (Ev.ite (fun h => Ev.some (by rw [decide_eq_false (by omega)]; rfl)) fun h => Ev.ite (fun h' => Ev.some (by rw [decide_eq_false (by omega)]; rfl)) fun h' => ?_)
  rw [decide_eq_true (by omega), Bool.true_and]
  refine Ev.diag (loop_all (L := fun K j i => impl_yprinted.l14 K j s _ i) (fun i h hp r hr => ?_) (fun i h hp => ?_) ?_)
  · have hp := of_decide_eq_true hp
    refine Ev.lp (fun K j => impl_yprinted.l14_eq K j s _ i) (Ev.yes (by omega) (Ev.yes (by omega) (Ev.no (by omega) (Ev.yes (by omega) (Ev.no (by omega) ?_)))))
    rw [wrap_nat (by omega)]; exact hr
  · have hp := of_decide_eq_false hp
    exact Ev.lp (fun K j => impl_yprinted.l14_eq K j s _ i) (Ev.yes (by omega) (Ev.yes (by omega) (Ev.ite (fun _ => Ev.now _) fun _ => Ev.yes (by omega) (Ev.yes (by omega) (Ev.now _)))))
  · exact Ev.lp (fun K j => impl_yprinted.l14_eq K j s _ _) (Ev.no (by omega) (Ev.now _))

/-! ### good atoms -/
def goodAtom (a : Int × Int × ByteArray × ByteArray × Unit) : Bool :=
  if a.1 = 1 then decide (a.2.2.1.size = 0 ∧ a.2.2.2.1.size = 0 ∧ (a.2.1 = 0 ∨ a.2.1 = 1))
  else if a.1 = 2 then decide (a.2.2.1.size = 0 ∧ a.2.2.2.1.size = 0)
  else if a.1 = 5 then decide (a.2.2.1.size = 0 ∧ a.2.2.2.1.size = 0)
  else if a.1 = 3 then decide (a.2.1 = 0 ∧ a.2.2.2.1.size = 0 ∧ a.2.2.1.size ≤ 200) && printed a.2.2.1
  else if a.1 = 4 then decide (a.2.1 = 0) && (goodName a.2.2.2.1 && (decide (1 ≤ a.2.2.1.size ∧ a.2.2.1.size ≤ 200) && printed a.2.2.1))
  else if a.1 = 6 then decide (a.2.2.1.size = 0 ∧ a.2.2.2.1.size = 0 ∧ 0 ≤ a.2.1 ∧ a.2.1 % 64 ≤ 32 ∧ a.2.1 / 64 < 4294967296) && decide ((a.2.1 / 64) % 2 ^ (32 - a.2.1 % 64).toNat = 0)
  else if a.1 = 7 then decide (a.2.2.1.size = 0 ∧ a.2.2.2.1.size = 0 ∧ -100000000000 ≤ a.2.1 ∧ a.2.1 ≤ 100000000000)
  else false
theorem pow_pos' (m : Nat) : (0 : Int) < 2 ^ m := Int.pow_pos (by decide)
theorem pow_mono {a b : Nat} (h : a ≤ b) : (2 : Int) ^ a ≤ 2 ^ b := by
  obtain ⟨d, rfl⟩ := Nat.exists_eq_add_of_le h
  rw [Int.pow_add]
  have h1 := pow_pos' a
  have h2 := pow_pos' d
  have : (2 : Int) ^ a * 1 ≤ 2 ^ a * 2 ^ d := Int.mul_le_mul_of_nonneg_left (by omega) (by omega)
  omega
theorem spec_l1Pow2_l (n : Nat) (hn : n ≤ 60) : ∀ (d i : Nat), n = i + d → Ev (fun K j => spec_l1Pow2.l8 K j (n : Int) (2 ^ i) (i : Int)) (2 ^ n) := by
  intro d
  induction d with
  | zero =>
    intro i h
    refine Ev.lp (fun K j => spec_l1Pow2.l8_eq K j _ _ _) (Ev.no (by omega) (Ev.some ?_))
    rw [h]; rfl
  | succ d ih =>
    intro i h
    refine Ev.lp (fun K j => spec_l1Pow2.l8_eq K j _ _ _) (Ev.yes (by omega) ?_)
    have z := ih (i + 1) (by omega)
    have h1 := pow_pos' (i + 1)
    have h2 := pow_mono (show i + 1 ≤ 61 by omega)
    rw [wrap_nat (by omega), show wrap64 (2 ^ i * 2) = 2 ^ (i + 1) from by rw [← Int.pow_succ]; exact wrap_id (by omega) (by omega)]
    exact z
theorem spec_l1Pow2_ev (m : Int) (h0 : 0 ≤ m) (h1 : m ≤ 60) : Ev (fun K _ => spec_l1Pow2.f K m) (2 ^ m.toNat) := by
  obtain ⟨n, rfl⟩ := Int.eq_ofNat_of_zero_le h0
  rw [Int.toNat_natCast]
  exact Ev.fn (fun k => spec_l1Pow2.f_eq k _) (Ev.diag (spec_l1Pow2_l n (by omega) n 0 (by omega)))
theorem tdiv64 {n : Int} (h0 : 0 ≤ n) (h1 : n < 9223372036854775808) : wrap64 (quoI n 64) = n / 64 := by
  unfold quoI; rw [Int.tdiv_eq_ediv_of_nonneg h0]; exact wrap_id (by omega) (by omega)
theorem tmod64 {n : Int} (h0 : 0 ≤ n) : remI n 64 = n % 64 := Int.tmod_eq_emod_of_nonneg h0
theorem bits_left {n : Int} (h : n % 64 ≤ 32) : wrap64 (32 - n % 64) = 32 - n % 64 := wrap_id (by omega) (by omega)
theorem two_small (m : Int) (h : m ≤ 32) : (0 : Int) < 2 ^ m.toNat ∧ (2 : Int) ^ m.toNat ≤ 4294967296 := by
  refine ⟨pow_pos' _, ?_⟩
  have := pow_mono (show m.toNat ≤ 32 by omega)
  omega
theorem wraps_i64 (x : Int) (h0 : -9223372036854775808 ≤ x) (h1 : x ≤ 9223372036854775807) : IntKind.i64.wrap x = x := by
  have := wrap_id h0 h1
  unfold wrap64 at this
  unfold IntKind.wrap
  simp [IntKind.bits, IntKind.signed] at *
  omega
theorem shl_one (m : Int) (h0 : 0 ≤ m) (h : m ≤ 32) : shlI .i64 1 m = 2 ^ m.toNat := by
  unfold shlI
  have h2 := two_small m h
  rw [Nat.min_eq_left (by simp [IntKind.bits]; omega), Int.one_mul]
  exact wraps_i64 _ (by omega) (by omega)
theorem spec_l1Block_ev (a : Int × Int × ByteArray × ByteArray × Unit) (h0 : 0 ≤ a.2.1) (h1 : a.2.1 < 9223372036854775808) (h : a.2.1 % 64 ≤ 32) : Ev (fun K _ => spec_l1Block.f K a) (a.2.1 / 64, 2 ^ (32 - a.2.1 % 64).toNat, ()) := by
  refine Ev.fn (fun k => spec_l1Block.f_eq k a) ?_
  rw [tmod64 h0, bits_left h, tdiv64 h0 h1]
  exact (spec_l1Pow2_ev (32 - a.2.1 % 64) (by omega) (by omega)).bind (Ev.now _)
theorem goodAtom1 {a : Int × Int × ByteArray × ByteArray × Unit} (h : a.1 = 1) : goodAtom a = decide (a.2.2.1.size = 0 ∧ a.2.2.2.1.size = 0 ∧ (a.2.1 = 0 ∨ a.2.1 = 1)) := by
  unfold goodAtom; rw [if_pos h]
theorem goodAtom2 {a : Int × Int × ByteArray × ByteArray × Unit} (h : a.1 = 2) : goodAtom a = decide (a.2.2.1.size = 0 ∧ a.2.2.2.1.size = 0) := by
  unfold goodAtom; rw [if_neg (by omega), if_pos h]
theorem goodAtom5 {a : Int × Int × ByteArray × ByteArray × Unit} (h : a.1 = 5) : goodAtom a = decide (a.2.2.1.size = 0 ∧ a.2.2.2.1.size = 0) := by
  unfold goodAtom; rw [if_neg (by omega), if_neg (by omega), if_pos h]
theorem goodAtom3 {a : Int × Int × ByteArray × ByteArray × Unit} (h : a.1 = 3) : goodAtom a = (decide (a.2.1 = 0 ∧ a.2.2.2.1.size = 0 ∧ a.2.2.1.size ≤ 200) && printed a.2.2.1) := by
  unfold goodAtom; rw [if_neg (by omega), if_neg (by omega), if_neg (by omega), if_pos h]
theorem goodAtom4 {a : Int × Int × ByteArray × ByteArray × Unit} (h : a.1 = 4) : goodAtom a = (decide (a.2.1 = 0) && (goodName a.2.2.2.1 && (decide (1 ≤ a.2.2.1.size ∧ a.2.2.1.size ≤ 200) && printed a.2.2.1))) := by
  unfold goodAtom; rw [if_neg (by omega), if_neg (by omega), if_neg (by omega), if_neg (by omega), if_pos h]
theorem goodAtom6 {a : Int × Int × ByteArray × ByteArray × Unit} (h : a.1 = 6) : goodAtom a = (decide (a.2.2.1.size = 0 ∧ a.2.2.2.1.size = 0 ∧ 0 ≤ a.2.1 ∧ a.2.1 % 64 ≤ 32 ∧ a.2.1 / 64 < 4294967296) && decide ((a.2.1 / 64) % 2 ^ (32 - a.2.1 % 64).toNat = 0)) := by
  unfold goodAtom; rw [if_neg (by omega), if_neg (by omega), if_neg (by omega), if_neg (by omega), if_neg (by omega), if_pos h]
theorem goodAtom7 {a : Int × Int × ByteArray × ByteArray × Unit} (h : a.1 = 7) : goodAtom a = decide (a.2.2.1.size = 0 ∧ a.2.2.2.1.size = 0 ∧ -100000000000 ≤ a.2.1 ∧ a.2.1 ≤ 100000000000) := by
  unfold goodAtom; rw [if_neg (by omega), if_neg (by omega), if_neg (by omega), if_neg (by omega), if_neg (by omega), if_neg (by omega), if_pos h]
theorem goodAtom0 {a : Int × Int × ByteArray × ByteArray × Unit} (h : a.1 ≠ 1 ∧ a.1 ≠ 2 ∧ a.1 ≠ 3 ∧ a.1 ≠ 4 ∧ a.1 ≠ 5 ∧ a.1 ≠ 6 ∧ a.1 ≠ 7) : goodAtom a = false := by
  unfold goodAtom; rw [if_neg (by omega), if_neg (by omega), if_neg (by omega), if_neg (by omega), if_neg (by omega), if_neg (by omega), if_neg (by omega)]
theorem spec_GoodAtom_ev (a : Int × Int × ByteArray × ByteArray × Unit) (hn : -9223372036854775808 ≤ a.2.1) (hn' : a.2.1 < 9223372036854775808) (ht : a.2.2.1.size ≤ 140737488351232) (hy : a.2.2.2.1.size ≤ 140737488351232) : Ev (fun K _ => spec_GoodAtom.f K a) (goodAtom a) := by
  refine Ev.fn (fun k => spec_GoodAtom.f_eq k a) ?_
  simp only [size_nil]
  by_cases hE : a.2.2.1.size = 0 <;> by_cases hY : a.2.2.2.1.size = 0
  all_goals
    by_cases k1 : a.1 = 1
    · rw [goodAtom1 k1]; (repeat (first | exact Ev.some (by (first | rfl | exact decide_eq_decide.2 (by omega) | exact (decide_eq_false (by omega)).symm | exact (decide_eq_true (by omega)).symm)) | exact Ev.some (by rw [decide_eq_false (by omega)]; rfl) | refine Ev.yes (by omega) ?_ | refine Ev.no (by omega) ?_)) <;> exact Ev.ite (fun _ => Ev.some (by (first | rfl | exact decide_eq_decide.2 (by omega) | exact (decide_eq_false (by omega)).symm | exact (decide_eq_true (by omega)).symm))) fun _ => Ev.some (by (first | rfl | exact decide_eq_decide.2 (by omega) | exact (decide_eq_false (by omega)).symm | exact (decide_eq_true (by omega)).symm))
    by_cases k2 : a.1 = 2
    · rw [goodAtom2 k2]; (repeat (first | exact Ev.some (by (first | rfl | exact decide_eq_decide.2 (by omega) | exact (decide_eq_false (by omega)).symm | exact (decide_eq_true (by omega)).symm)) | exact Ev.some (by rw [decide_eq_false (by omega)]; rfl) | refine Ev.yes (by omega) ?_ | refine Ev.no (by omega) ?_))
    by_cases k5 : a.1 = 5
    · rw [goodAtom5 k5]; (repeat (first | exact Ev.some (by (first | rfl | exact decide_eq_decide.2 (by omega) | exact (decide_eq_false (by omega)).symm | exact (decide_eq_true (by omega)).symm)) | exact Ev.some (by rw [decide_eq_false (by omega)]; rfl) | refine Ev.yes (by omega) ?_ | refine Ev.no (by omega) ?_))
    by_cases k3 : a.1 = 3
    · rw [goodAtom3 k3]
      by_cases z : a.2.1 = 0 ∧ a.2.2.2.1.size = 0 ∧ a.2.2.1.size ≤ 200
      · first
        | (exfalso; omega)
        | (rw [decide_eq_true z, Bool.true_and]; (repeat (first | exact Ev.some (by (first | rfl | exact decide_eq_decide.2 (by omega) | exact (decide_eq_false (by omega)).symm | exact (decide_eq_true (by omega)).symm)) | exact Ev.some (by rw [decide_eq_false (by omega)]; rfl) | refine Ev.yes (by omega) ?_ | refine Ev.no (by omega) ?_)); exact Ev.tail (spec_l1Printed_ev _ ht))
      · rw [decide_eq_false z, Bool.false_and]; (repeat (first | exact Ev.some (by (first | rfl | exact decide_eq_decide.2 (by omega) | exact (decide_eq_false (by omega)).symm | exact (decide_eq_true (by omega)).symm)) | exact Ev.some (by rw [decide_eq_false (by omega)]; rfl) | refine Ev.yes (by omega) ?_ | refine Ev.no (by omega) ?_)) <;> exact Ev.ite (fun _ => Ev.no (by omega) (Ev.now _)) fun _ => Ev.now _
    by_cases k4 : a.1 = 4
    · rw [goodAtom4 k4]
      by_cases z : a.2.1 = 0
      · rw [decide_eq_true z, Bool.true_and]; (repeat (first | exact Ev.some (by (first | rfl | exact decide_eq_decide.2 (by omega) | exact (decide_eq_false (by omega)).symm | exact (decide_eq_true (by omega)).symm)) | exact Ev.some (by rw [decide_eq_false (by omega)]; rfl) | refine Ev.yes (by omega) ?_ | refine Ev.no (by omega) ?_))
        refine (spec_GoodName_ev _ hy).bind (Ev.ite (fun g => ?_) fun g => Ev.some (by rw [Bool.eq_false_iff.2 g]; rfl))
        rw [g, Bool.true_and]
        by_cases s : 1 ≤ a.2.2.1.size ∧ a.2.2.1.size ≤ 200
        · rw [decide_eq_true s, Bool.true_and]; (repeat (first | exact Ev.some (by (first | rfl | exact decide_eq_decide.2 (by omega) | exact (decide_eq_false (by omega)).symm | exact (decide_eq_true (by omega)).symm)) | exact Ev.some (by rw [decide_eq_false (by omega)]; rfl) | refine Ev.yes (by omega) ?_ | refine Ev.no (by omega) ?_)); try exact Ev.tail (spec_l1Printed_ev _ ht)
        · rw [decide_eq_false s, Bool.false_and]; (repeat (first | exact Ev.some (by (first | rfl | exact decide_eq_decide.2 (by omega) | exact (decide_eq_false (by omega)).symm | exact (decide_eq_true (by omega)).symm)) | exact Ev.some (by rw [decide_eq_false (by omega)]; rfl) | refine Ev.yes (by omega) ?_ | refine Ev.no (by omega) ?_)) <;> exact Ev.ite (fun _ => Ev.no (by omega) (Ev.now _)) fun _ => Ev.now _
      · rw [decide_eq_false z, Bool.false_and]; (repeat (first | exact Ev.some (by (first | rfl | exact decide_eq_decide.2 (by omega) | exact (decide_eq_false (by omega)).symm | exact (decide_eq_true (by omega)).symm)) | exact Ev.some (by rw [decide_eq_false (by omega)]; rfl) | refine Ev.yes (by omega) ?_ | refine Ev.no (by omega) ?_))
    by_cases k6 : a.1 = 6
    · rw [goodAtom6 k6]
      (repeat (first | exact Ev.some (by (first | rfl | exact decide_eq_decide.2 (by omega) | exact (decide_eq_false (by omega)).symm | exact (decide_eq_true (by omega)).symm)) | exact Ev.some (by rw [decide_eq_false (by omega)]; rfl) | refine Ev.yes (by omega) ?_ | refine Ev.no (by omega) ?_))
      all_goals
        refine Ev.ite (fun hz => Ev.some (by rw [decide_eq_false (by omega)]; rfl)) fun hz => (spec_l1Pow2_ev 32 (by omega) (by omega)).bind ?_
        rw [tdiv64 (by omega) (by omega), tmod64 (by omega), show wrap64 (2 ^ (32 : Int).toNat - 1) = 4294967295 from by kernel_rfl]
        refine Ev.ite (fun hf => Ev.some (by rw [decide_eq_false (by omega)]; rfl)) fun hf => Ev.ite (fun hl => Ev.some (by rw [decide_eq_false (by omega)]; rfl)) fun hl => ?_
        rw [decide_eq_true (by omega), Bool.true_and]
        refine (spec_l1Block_ev a (by omega) hn' (by omega)).bind ?_
        have h2 := two_small (32 - a.2.1 % 64) (by omega)
        refine Ev.no (show ¬ ((2 : Int) ^ (32 - a.2.1 % 64).toNat = 0) by omega) (Ev.some ?_)
        unfold remI
        rw [Int.tmod_eq_emod_of_nonneg (by omega)]
    by_cases k7 : a.1 = 7
    · rw [goodAtom7 k7]; (repeat (first | exact Ev.some (by (first | rfl | exact decide_eq_decide.2 (by omega) | exact (decide_eq_false (by omega)).symm | exact (decide_eq_true (by omega)).symm)) | exact Ev.some (by rw [decide_eq_false (by omega)]; rfl) | refine Ev.yes (by omega) ?_ | refine Ev.no (by omega) ?_)) <;> exact Ev.ite (fun _ => Ev.some (by (first | rfl | exact decide_eq_decide.2 (by omega) | exact (decide_eq_false (by omega)).symm | exact (decide_eq_true (by omega)).symm))) fun _ => Ev.some (by (first | rfl | exact decide_eq_decide.2 (by omega) | exact (decide_eq_false (by omega)).symm | exact (decide_eq_true (by omega)).symm))
    rw [goodAtom0 ⟨k1, k2, k3, k4, k5, k6, k7⟩]; (repeat (first | exact Ev.some (by (first | rfl | exact decide_eq_decide.2 (by omega) | exact (decide_eq_false (by omega)).symm | exact (decide_eq_true (by omega)).symm)) | exact Ev.some (by rw [decide_eq_false (by omega)]; rfl) | refine Ev.yes (by omega) ?_ | refine Ev.no (by omega) ?_))
theorem impl_GoodAtom_ev (a : Int × Int × ByteArray × ByteArray × Unit) (hn : -9223372036854775808 ≤ a.2.1) (hn' : a.2.1 < 9223372036854775808) (ht : a.2.2.1.size ≤ 140737488351232) (hy : a.2.2.2.1.size ≤ 140737488351232) : Ev (fun K _ => impl_GoodAtom.f K a) (goodAtom a) := by
  refine Ev.fn (fun k => impl_GoodAtom.f_eq k a) ?_
  simp only [size_nil]
  by_cases hE : a.2.2.1.size = 0 <;> by_cases hY : a.2.2.2.1.size = 0
  all_goals
    by_cases k1 : a.1 = 1
    · rw [goodAtom1 k1]; (repeat (first | exact Ev.some (by (first | rfl | exact decide_eq_decide.2 (by omega) | exact (decide_eq_false (by omega)).symm | exact (decide_eq_true (by omega)).symm)) | exact Ev.some (by rw [decide_eq_false (by omega)]; rfl) | refine Ev.yes (by omega) ?_ | refine Ev.no (by omega) ?_)) <;> exact Ev.ite (fun _ => Ev.some (by (first | rfl | exact decide_eq_decide.2 (by omega) | exact (decide_eq_false (by omega)).symm | exact (decide_eq_true (by omega)).symm))) fun _ => Ev.some (by (first | rfl | exact decide_eq_decide.2 (by omega) | exact (decide_eq_false (by omega)).symm | exact (decide_eq_true (by omega)).symm))
    by_cases k2 : a.1 = 2
    · rw [goodAtom2 k2]; (repeat (first | exact Ev.some (by (first | rfl | exact decide_eq_decide.2 (by omega) | exact (decide_eq_false (by omega)).symm | exact (decide_eq_true (by omega)).symm)) | exact Ev.some (by rw [decide_eq_false (by omega)]; rfl) | refine Ev.yes (by omega) ?_ | refine Ev.no (by omega) ?_))
    by_cases k5 : a.1 = 5
    · rw [goodAtom5 k5]; (repeat (first | exact Ev.some (by (first | rfl | exact decide_eq_decide.2 (by omega) | exact (decide_eq_false (by omega)).symm | exact (decide_eq_true (by omega)).symm)) | exact Ev.some (by rw [decide_eq_false (by omega)]; rfl) | refine Ev.yes (by omega) ?_ | refine Ev.no (by omega) ?_))
    by_cases k3 : a.1 = 3
    · rw [goodAtom3 k3]
      by_cases z : a.2.1 = 0 ∧ a.2.2.2.1.size = 0
      · rw [show decide (a.2.1 = 0 ∧ a.2.2.2.1.size = 0 ∧ a.2.2.1.size ≤ 200) = decide ((0 : Int) ≤ a.2.2.1.size ∧ (a.2.2.1.size : Int) ≤ 200) from decide_eq_decide.2 (by omega)]
        (repeat (first | exact Ev.some (by (first | rfl | exact decide_eq_decide.2 (by omega) | exact (decide_eq_false (by omega)).symm | exact (decide_eq_true (by omega)).symm)) | exact Ev.some (by rw [decide_eq_false (by omega)]; rfl) | refine Ev.yes (by omega) ?_ | refine Ev.no (by omega) ?_)) <;> first | exact Ev.tail (impl_yprinted_ev _ _ _ ht) | (exfalso; omega)
      · rw [show decide (a.2.1 = 0 ∧ a.2.2.2.1.size = 0 ∧ a.2.2.1.size ≤ 200) = false from decide_eq_false (by omega), Bool.false_and]; (repeat (first | exact Ev.some (by (first | rfl | exact decide_eq_decide.2 (by omega) | exact (decide_eq_false (by omega)).symm | exact (decide_eq_true (by omega)).symm)) | exact Ev.some (by rw [decide_eq_false (by omega)]; rfl) | refine Ev.yes (by omega) ?_ | refine Ev.no (by omega) ?_)) <;> exact Ev.ite (fun _ => Ev.no (by omega) (Ev.now _)) fun _ => Ev.now _
    by_cases k4 : a.1 = 4
    · rw [goodAtom4 k4]
      by_cases z : a.2.1 = 0
      · rw [decide_eq_true z, Bool.true_and]; (repeat (first | exact Ev.some (by (first | rfl | exact decide_eq_decide.2 (by omega) | exact (decide_eq_false (by omega)).symm | exact (decide_eq_true (by omega)).symm)) | exact Ev.some (by rw [decide_eq_false (by omega)]; rfl) | refine Ev.yes (by omega) ?_ | refine Ev.no (by omega) ?_))
        refine (impl_GoodName_ev _ hy).bind (Ev.ite (fun g => ?_) fun g => Ev.some (by rw [Bool.eq_false_iff.2 g]; rfl))
        rw [g, Bool.true_and, show decide (1 ≤ a.2.2.1.size ∧ a.2.2.1.size ≤ 200) = decide ((1 : Int) ≤ a.2.2.1.size ∧ (a.2.2.1.size : Int) ≤ 200) from decide_eq_decide.2 (by omega)]
        exact Ev.tail (impl_yprinted_ev _ _ _ ht)
      · rw [decide_eq_false z, Bool.false_and]; (repeat (first | exact Ev.some (by (first | rfl | exact decide_eq_decide.2 (by omega) | exact (decide_eq_false (by omega)).symm | exact (decide_eq_true (by omega)).symm)) | exact Ev.some (by rw [decide_eq_false (by omega)]; rfl) | refine Ev.yes (by omega) ?_ | refine Ev.no (by omega) ?_))
    by_cases k6 : a.1 = 6
    · rw [goodAtom6 k6]
      (repeat (first | exact Ev.some (by (first | rfl | exact decide_eq_decide.2 (by omega) | exact (decide_eq_false (by omega)).symm | exact (decide_eq_true (by omega)).symm)) | exact Ev.some (by rw [decide_eq_false (by omega)]; rfl) | refine Ev.yes (by omega) ?_ | refine Ev.no (by omega) ?_))
      all_goals
        refine Ev.ite (fun hz => Ev.some (by rw [decide_eq_false (by omega)]; rfl)) fun hz => ?_
        rw [tdiv64 (by omega) (by omega), tmod64 (by omega)]
        refine Ev.ite (fun hl => Ev.ite (fun hf => ?_) fun hf => Ev.some (by rw [decide_eq_false (by omega)]; rfl)) fun hl => Ev.some (by rw [decide_eq_false (by omega)]; rfl)
        rw [show decide (a.2.2.1.size = 0 ∧ a.2.2.2.1.size = 0 ∧ 0 ≤ a.2.1 ∧ a.2.1 % 64 ≤ 32 ∧ a.2.1 / 64 < 4294967296) = true from decide_eq_true (by omega), Bool.true_and, bits_left hl, shl_one _ (by omega) (by omega)]
        have h2 := two_small (32 - a.2.1 % 64) (by omega)
        refine Ev.no (by omega) (Ev.no (by omega) (Ev.some ?_))
        unfold remI
        rw [Int.tmod_eq_emod_of_nonneg (by omega)]
    by_cases k7 : a.1 = 7
    · rw [goodAtom7 k7]; (repeat (first | exact Ev.some (by (first | rfl | exact decide_eq_decide.2 (by omega) | exact (decide_eq_false (by omega)).symm | exact (decide_eq_true (by omega)).symm)) | exact Ev.some (by rw [decide_eq_false (by omega)]; rfl) | refine Ev.yes (by omega) ?_ | refine Ev.no (by omega) ?_)) <;> exact Ev.ite (fun _ => Ev.some (by (first | rfl | exact decide_eq_decide.2 (by omega) | exact (decide_eq_false (by omega)).symm | exact (decide_eq_true (by omega)).symm))) fun _ => Ev.some (by (first | rfl | exact decide_eq_decide.2 (by omega) | exact (decide_eq_false (by omega)).symm | exact (decide_eq_true (by omega)).symm))
    rw [goodAtom0 ⟨k1, k2, k3, k4, k5, k6, k7⟩]; (repeat (first | exact Ev.some (by (first | rfl | exact decide_eq_decide.2 (by omega) | exact (decide_eq_false (by omega)).symm | exact (decide_eq_true (by omega)).symm)) | exact Ev.some (by rw [decide_eq_false (by omega)]; rfl) | refine Ev.yes (by omega) ?_ | refine Ev.no (by omega) ?_))

abbrev spec_GoodName.v (s : ByteArray) : Bool := goodName s
theorem spec_GoodName.v_ev (s : ByteArray) (f : fitSh .str s) : EvF .bool (fun K _ => spec_GoodName.f K s) (spec_GoodName.v s) := ⟨spec_GoodName_ev s f, trivial⟩
abbrev impl_GoodName.v (s : ByteArray) : Bool := goodName s
theorem impl_GoodName.v_ev (s : ByteArray) (f : fitSh .str s) : EvF .bool (fun K _ => impl_GoodName.f K s) (impl_GoodName.v s) := ⟨impl_GoodName_ev s f, trivial⟩

abbrev spec_GoodAtom.v (a : Int × Int × ByteArray × ByteArray × Unit) : Bool := goodAtom a
abbrev impl_GoodAtom.v (a : Int × Int × ByteArray × ByteArray × Unit) : Bool := goodAtom a
theorem spec_GoodAtom.v_ev (a : T22) (f : fitSh S22 a) : EvF .bool (fun K _ => spec_GoodAtom.f K a) (spec_GoodAtom.v a) := by
  have w := i64_of f.2.1
  exact ⟨spec_GoodAtom_ev a w.1 (by omega) f.2.2.1 f.2.2.2.1, trivial⟩
theorem impl_GoodAtom.v_ev (a : T22) (f : fitSh S22 a) : EvF .bool (fun K _ => impl_GoodAtom.f K a) (impl_GoodAtom.v a) := by
  have w := i64_of f.2.1
  exact ⟨impl_GoodAtom_ev a w.1 (by omega) f.2.2.1 f.2.2.2.1, trivial⟩

/-! ### an atom's text -/
theorem bsz (l : List UInt8) : (ByteArray.mk l.toArray).size = l.length := by simp [ByteArray.size]
theorem cutS_mk (l : List UInt8) (a b : Int) : cutS ⟨l.toArray⟩ a b = ⟨((l.take b.toNat).drop a.toNat).toArray⟩ := by
  unfold cutS
  apply ByteArray.ext
  rw [ByteArray.data_extract]
  apply Array.ext'
  simp [List.extract_eq_take_drop, List.drop_take]
theorem appS_mk' (a : ByteArray) (b : List UInt8) : appS a ⟨b.toArray⟩ = ⟨(a.data.toList ++ b).toArray⟩ := by
  rw [← appS_mk]
theorem itoaS_list (n : Int) : itoaS n = ⟨(Go.Lib.itoa n).toArray⟩ := rfl
theorem itoa_len (n : Int) (h0 : -9223372036854775808 ≤ n) (h1 : n ≤ 9223372036854775807) : (Go.Lib.itoa n).length ≤ 20 := by
  unfold Go.Lib.itoa
  split
  · have := dec_len19 n.natAbs (by omega)
    simp; omega
  · have := dec_len19 n.toNat (by omega)
    omega
def dg (d : Nat) : UInt8 := UInt8.ofNat (48 + d)
def d4 (u : Nat) : List UInt8 := [dg (u / 1000 % 10), dg (u / 100 % 10), dg (u / 10 % 10), dg (u % 10)]
theorem dec_step' (u : Nat) (h : 10 ≤ u) : Go.Lib.decDigits u = Go.Lib.decDigits (u / 10) ++ [dg (u % 10)] := dec_step u (by omega)
theorem dec_one' (u : Nat) (h : u < 10) : Go.Lib.decDigits u = [dg u] := Go.Lib.decDigits_one h
theorem dec_pos (u : Nat) : 1 ≤ (Go.Lib.decDigits u).length := by
  by_cases h : u < 10
  · rw [dec_one' u h]; simp
  · rw [dec_step' u (by omega)]; simp
theorem dec_d4 (u : Nat) (h : 10000 ≤ u) : Go.Lib.decDigits u = Go.Lib.decDigits (u / 10000) ++ d4 u := by
  rw [dec_step' u (by omega), dec_step' (u / 10) (by omega), dec_step' (u / 10 / 10) (by omega), dec_step' (u / 10 / 10 / 10) (by omega)]
  rw [show u / 10 / 10 / 10 / 10 = u / 10000 by omega, show u / 10 / 10 / 10 % 10 = u / 1000 % 10 by omega, show u / 10 / 10 % 10 = u / 100 % 10 by omega]
  simp [d4]
theorem low_eq (u : Nat) : Go.Lib.decDigits (u % 10000 + 10000) = 49 :: d4 u := by
  rw [dec_d4 _ (by omega), show (u % 10000 + 10000) / 10000 = 1 by omega, dec_one' 1 (by omega)]
  unfold d4
  rw [show (u % 10000 + 10000) / 1000 % 10 = u / 1000 % 10 by omega, show (u % 10000 + 10000) / 100 % 10 = u / 100 % 10 by omega, show (u % 10000 + 10000) / 10 % 10 = u / 10 % 10 by omega, show (u % 10000 + 10000) % 10 = u % 10 by omega]
  rfl
theorem pad_dec (u : Nat) : List.replicate (5 - (Go.Lib.decDigits u).length) 48 ++ Go.Lib.decDigits u = Go.Lib.decDigits (u / 10000) ++ d4 u := by
  by_cases h4 : 10000 ≤ u
  · rw [dec_d4 u h4]
    have := dec_pos (u / 10000)
    rw [show 5 - (Go.Lib.decDigits (u / 10000) ++ d4 u).length = 0 by rw [List.length_append]; show 5 - (_ + 4) = 0; omega]
    simp
  rw [show u / 10000 = 0 by omega, dec_one' 0 (by omega)]
  unfold d4
  by_cases h1 : u < 10
  · rw [dec_one' u h1, show u / 1000 % 10 = 0 by omega, show u / 100 % 10 = 0 by omega, show u / 10 % 10 = 0 by omega, show u % 10 = u by omega]
    rfl
  by_cases h2 : u < 100
  · rw [dec_step' u (by omega), dec_one' (u / 10) (by omega), show u / 1000 % 10 = 0 by omega, show u / 100 % 10 = 0 by omega, show u / 10 % 10 = u / 10 by omega]
    rfl
  by_cases h3 : u < 1000
  · rw [dec_step' u (by omega), dec_step' (u / 10) (by omega), dec_one' (u / 10 / 10) (by omega), show u / 1000 % 10 = 0 by omega, show u / 100 % 10 = u / 10 / 10 by omega]
    rfl
  · rw [dec_step' u (by omega), dec_step' (u / 10) (by omega), dec_step' (u / 10 / 10) (by omega), dec_one' (u / 10 / 10 / 10) (by omega), show u / 1000 % 10 = u / 10 / 10 / 10 by omega, show u / 100 % 10 = u / 10 / 10 % 10 by omega]
    rfl
/-- a number with four places behind its point -/
def decU (n : Nat) : List UInt8 := Go.Lib.decDigits (n / 10000) ++ (46 :: d4 n)
def decT (n : Int) : List UInt8 := if n < 0 then 45 :: decU n.natAbs else decU n.natAbs
theorem decU_len (n : Nat) (h : n ≤ 9223372036854775808) : (decU n).length ≤ 24 := by
  unfold decU
  have := dec_len19 (n / 10000) (by omega)
  rw [List.length_append]
  show _ + 5 ≤ 24
  omega
theorem l45_ev (n : Int) (u : Nat) (hu : u = n.natAbs) (hU : u ≤ 9223372036854775808) (y0 : Int) (y2 y3 : ByteArray) : ∀ (m : Nat) (l : List UInt8), 5 - l.length = m → l.length ≤ 30 → List.replicate m 48 ++ l = Go.Lib.decDigits (u / 10000) ++ d4 u →
    Ev (fun K j => spec_l1Text.l45 K j ⟨l.toArray⟩ y0 n y2 y3) ⟨(decT n).toArray⟩ := by
  intro m
  induction m with
  | zero =>
    intro l hm hl hp
    rw [List.replicate_zero, List.nil_append] at hp
    have hlen : l.length = (Go.Lib.decDigits (u / 10000)).length + 4 := by rw [hp, List.length_append]; rfl
    refine Ev.lp (fun K j => spec_l1Text.l45_eq K j _ _ _ _ _) ?_
    have hw : wrap64 ((((ByteArray.mk l.toArray).size : Nat) : Int) - 4) = (((Go.Lib.decDigits (u / 10000)).length : Nat) : Int) := by
      rw [bsz, wrap_id (by omega) (by omega)]; omega
    rw [hw, cutS_mk, cutS_mk]
    have h1 : (l.take ((((Go.Lib.decDigits (u / 10000)).length : Nat) : Int)).toNat).drop (0 : Int).toNat = Go.Lib.decDigits (u / 10000) := by
      rw [Int.toNat_natCast, hp, List.take_left]; rfl
    have h2 : (l.take (((ByteArray.mk l.toArray).size : Nat) : Int).toNat).drop ((((Go.Lib.decDigits (u / 10000)).length : Nat) : Int)).toNat = d4 u := by
      rw [Int.toNat_natCast, Int.toNat_natCast, bsz, List.take_length, hp, List.drop_left]
    rw [h1, h2, show (⟨#[46]⟩ : ByteArray) = ⟨[(46 : UInt8)].toArray⟩ from rfl, show (⟨#[45]⟩ : ByteArray) = ⟨[(45 : UInt8)].toArray⟩ from rfl, appS_mk, appS_mk, appS_mk]
    simp only [bsz]
    have hd := dec_len19 (u / 10000) (by omega)
    have e : Go.Lib.decDigits (u / 10000) ++ [46] ++ d4 u = decU n.natAbs := by rw [← hu]; unfold decU; simp
    rw [e]
    refine Ev.no (by omega) (Ev.yes (by omega) (Ev.yes (by show _ + 1 ≤ 4611686018427387904; omega) (Ev.yes (by omega) (Ev.yes (by rw [List.length_append]; show _ + 1 + 4 ≤ 4611686018427387904; omega) ?_))))
    have hl2 := decU_len n.natAbs (by omega)
    refine Ev.ite (fun h => Ev.yes (by show 1 + _ ≤ 4611686018427387904; omega) (Ev.some ?_)) fun h => Ev.some ?_
    · unfold decT; rw [if_pos h]; rfl
    · unfold decT; rw [if_neg h]
  | succ m ih =>
    intro l hm hl hp
    refine Ev.lp (fun K j => spec_l1Text.l45_eq K j _ _ _ _ _) ?_
    simp only [bsz]
    refine Ev.yes (by omega) (Ev.yes (by show 1 + _ ≤ 4611686018427387904; omega) ?_)
    rw [show (⟨#[48]⟩ : ByteArray) = ⟨[(48 : UInt8)].toArray⟩ from rfl, appS_mk]
    refine ih ([48] ++ l) (by simp; omega) (by simp; omega) ?_
    rw [← hp, List.replicate_succ', List.append_assoc]
/-! quotes -/
def escI (x : Int) : List Int := if x = 34 ∨ x = 92 then [92, x] else [x]
def quoteL (s : ByteArray) : List UInt8 := 34 :: ((s.data.toList.flatMap fun b => if b = 34 ∨ b = 92 then [92, b] else [b]) ++ [34])
theorem quoteS_list (s : ByteArray) : quoteS s = ⟨(quoteL s).toArray⟩ := rfl
theorem esc_bytes : ∀ l : List UInt8, ((l.map fun b => (b.toNat : Int)).flatMap escI).map (fun n => UInt8.ofNat n.toNat) = l.flatMap fun b => if b = 34 ∨ b = 92 then [92, b] else [b]
  | [] => rfl
  | b :: l => by
    rw [List.map_cons, List.flatMap_cons, List.flatMap_cons, List.map_append, esc_bytes l]
    congr 1
    unfold escI
    have e : UInt8.ofNat ((b.toNat : Int)).toNat = b := by rw [Int.toNat_natCast, UInt8.ofNat_toNat]
    by_cases h : b = 34 ∨ b = 92
    · rw [if_pos h, if_pos (by rcases h with rfl | rfl <;> simp)]
      simp [e]
    · rw [if_neg h, if_neg (by
        rintro (h1 | h1)
        · exact h (.inl (UInt8.toNat_inj.1 (by show b.toNat = 34; omega)))
        · exact h (.inr (UInt8.toNat_inj.1 (by show b.toNat = 92; omega))))]
      simp [e]
theorem esc_len2 (l : List Int) : (l.flatMap escI).length ≤ 2 * l.length := by
  induction l with
  | nil => simp
  | cons x l ih =>
    rw [List.flatMap_cons, List.length_append, List.length_cons]
    have : (escI x).length ≤ 2 := by unfold escI; split <;> simp
    omega
theorem quoteL_len (s : ByteArray) : (quoteL s).length ≤ 2 * s.size + 2 := by
  unfold quoteL
  rw [← esc_bytes, List.length_cons, List.length_append, List.length_map]
  have := esc_len2 (s.data.toList.map fun b => (b.toNat : Int))
  rw [List.length_map] at this
  have h2 : s.data.toList.length = s.size := by simp
  show _ + 1 + 1 ≤ _
  omega
theorem l8q (s : ByteArray) (hs : s.size ≤ 1000) : ∀ (d i : Nat) (acc : List Int), s.size = i + d → acc.length ≤ 2 * i + 1 →
    Ev (fun K j => spec_l1Quoted.l8 K j s (i : Int) acc) (utfB (acc ++ ((bytesOf s).drop i).flatMap escI ++ [34])) := by
  intro d
  induction d with
  | zero =>
    intro i acc h ha
    rw [List.drop_of_length_le (by rw [bytesOf_length]; omega)]
    refine Ev.lp (fun K j => spec_l1Quoted.l8_eq K j _ _ _) (Ev.no (by omega) (Ev.yes (by show acc.length + 1 ≤ 17592186044416; omega) (Ev.some ?_)))
    unfold app
    simp
  | succ d ih =>
    intro i acc h ha
    have hi : i < s.size := by omega
    rw [drop_bytes s i hi, List.flatMap_cons]
    have m1 : acc.length + [(92 : Int)].length ≤ most 1 := by show acc.length + 1 ≤ 17592186044416; omega
    have m1' : acc.length + [bt s (i : Int)].length ≤ most 1 := by show acc.length + 1 ≤ 17592186044416; omega
    have m2 : (app acc [92]).length + [bt s (i : Int)].length ≤ most 1 := by unfold app; rw [List.length_append]; show acc.length + 1 + 1 ≤ 17592186044416; omega
    have z2 := ih (i + 1) (acc ++ [92] ++ [bt s (i : Int)]) (by omega) (by simp; omega)
    have z1 := ih (i + 1) (acc ++ [bt s (i : Int)]) (by omega) (by simp; omega)
    refine Ev.lp (fun K j => spec_l1Quoted.l8_eq K j _ _ _) (Ev.yes (by omega) (Ev.yes (by omega) ?_))
    rw [wrap_nat (by omega)]
    refine Ev.ite (fun h34 => Ev.yes m1 (Ev.yes (by omega) (Ev.yes m2 ?_))) fun h34 => Ev.yes (by omega) (Ev.ite (fun h92 => Ev.yes m1 (Ev.yes (by omega) (Ev.yes m2 ?_))) fun h92 => Ev.yes (by omega) (Ev.yes m1' ?_))
    · have e : escI (bt s (i : Int)) = [92, bt s (i : Int)] := by unfold escI; rw [if_pos (.inl h34)]
      rw [e]
      simpa [app] using z2
    · have e : escI (bt s (i : Int)) = [92, bt s (i : Int)] := by unfold escI; rw [if_pos (.inr h92)]
      rw [e]
      simpa [app] using z2
    · have e : escI (bt s (i : Int)) = [bt s (i : Int)] := by unfold escI; rw [if_neg (by omega)]
      rw [e]
      simpa [app] using z1
theorem spec_quoted_ev (s : ByteArray) (hs : s.size ≤ 1000) : Ev (fun K _ => spec_l1Quoted.f K s) ⟨(quoteL s).toArray⟩ := by
  refine Ev.fn (fun k => spec_l1Quoted.f_eq k s) ?_
  have z := l8q s hs s.size 0 [34] (by omega) (by simp)
  have e : utfB ([34] ++ ((bytesOf s).drop 0).flatMap escI ++ [34]) = ⟨(quoteL s).toArray⟩ := by
    unfold utfB quoteL bytesOf
    rw [List.drop_zero, List.map_append, List.map_append, esc_bytes]
    rfl
  rw [e] at z
  exact Ev.diag (L := fun K j => spec_l1Quoted.l8 K j s 0 [34]) z
theorem impl_quote_ev (s : ByteArray) (hs : s.size ≤ 200) : Ev (fun K _ => impl_yquote.f K s) ⟨(quoteL s).toArray⟩ :=
  Ev.fn (fun k => impl_yquote.f_eq k s) (Ev.yes hs (Ev.now _))
/-! addresses -/
def addrF (f b : Nat) : List UInt8 := Go.Lib.decDigits (f / 16777216) ++ [46] ++ Go.Lib.decDigits (f / 65536 % 256) ++ [46] ++ Go.Lib.decDigits (f / 256 % 256) ++ [46] ++ Go.Lib.decDigits (f % 256) ++ [47] ++ Go.Lib.decDigits b
def addrT (n : Int) : List UInt8 := addrF (n / 64).toNat (n % 64).toNat
theorem quo_nat (F : Nat) (c : Nat) (h : F < 4611686018427387904) : wrap64 (quoI (F : Int) (c : Int)) = ((F / c : Nat) : Int) := by
  unfold quoI
  rw [Int.tdiv_eq_ediv_of_nonneg (by omega)]
  have h1 : (F : Int) / (c : Int) = ((F / c : Nat) : Int) := rfl
  rw [h1]
  have h2 : F / c ≤ F := Nat.div_le_self F c
  generalize F / c = q at *
  exact wrap_id (by omega) (by omega)
theorem rem_nat (F : Nat) (c : Nat) : remI (F : Int) (c : Int) = ((F % c : Nat) : Int) := by
  unfold remI
  rw [Int.tmod_eq_emod_of_nonneg (by omega)]; rfl
theorem itoa_nat (u : Nat) : Go.Lib.itoa (u : Int) = Go.Lib.decDigits u := by
  unfold Go.Lib.itoa
  rw [if_neg (by omega)]; simp
theorem and255 (x : Nat) (h : x < 9223372036854775808) : bits .and .i64 (x : Int) 255 = ((x % 256 : Nat) : Int) := by
  have := bits_mask .i64 63 (by decide) (fun n h0 h1 => by rw [IntKind.wrap_i64]; omega) 8 (by decide) (x : Int) (by omega) (by omega)
  have e : (2 : Int) ^ 8 - 1 = 255 := by decide
  rw [e] at this
  rw [this]
  omega
theorem shr_nat (F : Nat) (s : Nat) (hs : s ≤ 63) : shrI .i64 (F : Int) (s : Int) = ((F / 2 ^ s : Nat) : Int) := by
  unfold shrI
  rw [Int.toNat_natCast, Nat.min_eq_left (by show s ≤ 64; omega)]
  rw [Int.fdiv_eq_ediv_of_nonneg _ (by exact Int.le_of_lt (Int.pow_pos (by decide)))]
  rw [show (2 : Int) ^ s = ((2 ^ s : Nat) : Int) by simp]
  rfl
theorem spec_num_nat (u : Nat) (h : u < 4611686018427387904) : Ev (fun K _ => spec_l1Num.f K (u : Int)) ⟨(Go.Lib.decDigits u).toArray⟩ := by
  have := spec_num_all (u : Int) (by omega) (by omega)
  rw [itoaS_list, itoa_nat] at this
  exact this
theorem impl_itoa_nat (u : Nat) (h : u < 4611686018427387904) : Ev (fun K _ => strconv_Itoa.f K (u : Int)) ⟨(Go.Lib.decDigits u).toArray⟩ := by
  have : Ev (fun K _ => strconv_Itoa.f K (u : Int)) (itoaS (u : Int)) := Ev.fn (fun k => strconv_Itoa.f_eq k _) (Ev.yes ⟨by omega, by omega⟩ (Ev.now _))
  rw [itoaS_list, itoa_nat] at this
  exact this
theorem dec_small (u : Nat) (h : u < 1000) : (Go.Lib.decDigits u).length ≤ 3 := dec_len 2 u (by omega)
theorem l65_ev (F : Nat) (hF : F < 4294967296) (b : Nat) (n : Int) (hb : remI n 64 = (b : Int)) (hb2 : b < 64) (y0 : Int) (y2 y3 : ByteArray) :
    Ev (fun K j => impl_AtomText.l65 K j (F : Int) ⟨#[]⟩ 24 y0 n y2 y3) ⟨(addrF F b).toArray⟩ := by
  have step : ∀ (k : Nat) (m : Nat) (l : List UInt8) (R : ByteArray), k ≤ 24 → l.length ≤ 100 → (F / 2 ^ k) % 256 = m → Ev (fun K j => impl_AtomText.l65 K j (F : Int) ⟨(l ++ (Go.Lib.decDigits m ++ [46])).toArray⟩ ((k : Int) - 8) y0 n y2 y3) R →
      Ev (fun K j => impl_AtomText.l65 K j (F : Int) ⟨l.toArray⟩ (k : Int) y0 n y2 y3) R := by
    intro k m l R hk hl hm h
    refine Ev.lp (fun K j => impl_AtomText.l65_eq K j _ _ _ _ _ _ _) (Ev.yes (by omega) (Ev.no (by omega) ?_))
    have hlt : F / 2 ^ k < 9223372036854775808 := Nat.lt_of_le_of_lt (Nat.div_le_self _ _) (by omega)
    rw [shr_nat F k (by omega), and255 _ hlt, hm]
    have hm2 : m < 256 := by omega
    refine (impl_itoa_nat m (by omega)).bind ?_
    have hd := dec_small m (by omega)
    rw [show (⟨#[46]⟩ : ByteArray) = ⟨[(46 : UInt8)].toArray⟩ from rfl, appS_mk, appS_mk]
    simp only [bsz]
    rw [wrap_id (by omega) (by omega)]
    refine Ev.yes (by show _ + 1 ≤ 4611686018427387904; omega) (Ev.yes ?_ h)
    rw [List.length_append]
    show _ + (_ + 1) ≤ 4611686018427387904
    omega
  have d1 := dec_small (F / 2 ^ 24 % 256) (by omega)
  have d2 := dec_small (F / 2 ^ 16 % 256) (by omega)
  have d3 := dec_small (F / 2 ^ 8 % 256) (by omega)
  have d4' := dec_small (F / 2 ^ 0 % 256) (by omega)
  have c1 := dec_small (F / 16777216 % 256) (by omega)
  have c2 := dec_small (F / 65536 % 256) (by omega)
  have c3 := dec_small (F / 256 % 256) (by omega)
  have c4 := dec_small (F % 256) (by omega)
  refine step 24 _ [] _ (by omega) (by simp) rfl ?_
  refine step 16 _ _ _ (by omega) (by simp; omega) rfl ?_
  refine step 8 _ _ _ (by omega) (by simp; omega) rfl ?_
  refine step 0 _ _ _ (by omega) (by simp; omega) rfl ?_
  refine Ev.lp (fun K j => impl_AtomText.l65_eq K j _ _ _ _ _ _ _) (Ev.no (by omega) ?_)
  generalize hA : ([] ++ (Go.Lib.decDigits (F / 2 ^ 24 % 256) ++ [46]) ++ (Go.Lib.decDigits (F / 2 ^ 16 % 256) ++ [46]) ++ (Go.Lib.decDigits (F / 2 ^ 8 % 256) ++ [46])) = A
  have hAl : A.length ≤ 12 := by rw [← hA]; simp; omega
  have hw : wrap64 ((((ByteArray.mk (A ++ (Go.Lib.decDigits (F / 2 ^ 0 % 256) ++ [46])).toArray).size : Nat) : Int) - 1) = (((A ++ Go.Lib.decDigits (F / 2 ^ 0 % 256)).length : Nat) : Int) := by
    have hL : (A ++ (Go.Lib.decDigits (F / 2 ^ 0 % 256) ++ [46])).length = A.length + (Go.Lib.decDigits (F / 2 ^ 0 % 256)).length + 1 := by rw [List.length_append, List.length_append]; rfl
    rw [bsz, hL, wrap_id (by omega) (by omega), List.length_append]; omega
  rw [hw, cutS_mk, hb]
  have h1 : ((A ++ (Go.Lib.decDigits (F / 2 ^ 0 % 256) ++ [46])).take ((((A ++ Go.Lib.decDigits (F / 2 ^ 0 % 256)).length : Nat) : Int)).toNat).drop (0 : Int).toNat = A ++ Go.Lib.decDigits (F / 2 ^ 0 % 256) := by
    rw [Int.toNat_natCast, ← List.append_assoc, List.take_left]; rfl
  rw [h1, show (⟨#[47]⟩ : ByteArray) = ⟨[(47 : UInt8)].toArray⟩ from rfl, appS_mk]
  simp only [bsz]
  have hb3 := dec_small b (by omega)
  refine Ev.yes ⟨by omega, by omega, by simp; omega⟩ (Ev.yes ?_ ((impl_itoa_nat b (by omega)).bind (Ev.yes ?_ (Ev.some ?_))))
  · rw [List.length_append]; show _ + 1 ≤ 4611686018427387904; omega
  · rw [bsz, List.length_append, List.length_append]; show _ + 1 + _ ≤ 4611686018427387904; omega
  · rw [appS_mk, ← hA]
    unfold addrF
    have e1 : F / 2 ^ 24 % 256 = F / 16777216 := by omega
    have e2 : F / 2 ^ 16 % 256 = F / 65536 % 256 := by omega
    have e3 : F / 2 ^ 8 % 256 = F / 256 % 256 := by omega
    have e4 : F / 2 ^ 0 % 256 = F % 256 := by omega
    rw [e1, e2, e3, e4]
    simp
/-! all of it -/
abbrev AtT := Int × Int × ByteArray × ByteArray × Unit
def textL (a : AtT) : List UInt8 :=
  if a.1 = 1 then (if a.2.1 = 1 then [116, 114, 117, 101] else [102, 97, 108, 115, 101])
  else if a.1 = 2 then Go.Lib.itoa a.2.1
  else if a.1 = 3 then quoteL a.2.2.1
  else if a.1 = 4 then a.2.2.2.1.data.toList ++ [58, 58] ++ quoteL a.2.2.1
  else if a.1 = 5 then decT a.2.1
  else if a.1 = 6 then addrT a.2.1
  else 64 :: Go.Lib.itoa a.2.1
def atomT (a : AtT) : ByteArray := if goodAtom a = true then ⟨(textL a).toArray⟩ else ⟨#[]⟩
theorem good_kind {a : AtT} (g : goodAtom a = true) : a.1 = 1 ∨ a.1 = 2 ∨ a.1 = 3 ∨ a.1 = 4 ∨ a.1 = 5 ∨ a.1 = 6 ∨ a.1 = 7 := by
  refine Classical.byContradiction fun h => ?_
  rw [goodAtom0 (by omega)] at g
  cases g
theorem good_text {a : AtT} (g : goodAtom a = true) : a.2.2.1.size ≤ 200 ∧ a.2.2.2.1.size ≤ 30 := by
  rcases good_kind g with h | h | h | h | h | h | h
  · rw [goodAtom1 h] at g; have := of_decide_eq_true g; omega
  · rw [goodAtom2 h] at g; have := of_decide_eq_true g; omega
  · rw [goodAtom3 h, Bool.and_eq_true] at g; have := of_decide_eq_true g.1; omega
  · rw [goodAtom4 h, Bool.and_eq_true, Bool.and_eq_true, Bool.and_eq_true] at g
    have h1 := of_decide_eq_true g.2.2.1
    have h2 := g.2.1
    unfold goodName at h2
    rw [Bool.and_eq_true, Bool.and_eq_true] at h2
    have h3 := of_decide_eq_true h2.1.1
    omega
  · rw [goodAtom5 h] at g; have := of_decide_eq_true g; omega
  · rw [goodAtom6 h, Bool.and_eq_true] at g; have := of_decide_eq_true g.1; omega
  · rw [goodAtom7 h] at g; have := of_decide_eq_true g; omega
theorem addr_parts {a : AtT} (h : a.1 = 6) (g : goodAtom a = true) : ∃ F b : Nat, F < 4294967296 ∧ b ≤ 32 ∧ a.2.1 / 64 = (F : Int) ∧ a.2.1 % 64 = (b : Int) ∧ 0 ≤ a.2.1 := by
  rw [goodAtom6 h, Bool.and_eq_true] at g
  have := of_decide_eq_true g.1
  exact ⟨(a.2.1 / 64).toNat, (a.2.1 % 64).toNat, by omega, by omega, by omega, by omega, by omega⟩
theorem dots (F b : Nat) : (Go.Lib.decDigits (F / 16777216) ++ [46] ++ Go.Lib.decDigits (F / 65536 % 256) ++ [46] ++ Go.Lib.decDigits (F / 256 % 256) ++ [46] ++ Go.Lib.decDigits (F % 256) ++ [47] ++ Go.Lib.decDigits b) = addrF F b := rfl
theorem spec_text_ev (a : AtT) (hn : -9223372036854775808 ≤ a.2.1) (hn' : a.2.1 ≤ 9223372036854775807) (g : goodAtom a = true) : Ev (fun K _ => spec_l1Text.f K a) ⟨(textL a).toArray⟩ := by
  obtain ⟨ht, hy⟩ := good_text g
  refine Ev.fn (fun k => spec_l1Text.f_eq k a) ?_
  have kinds := good_kind g
  unfold textL
  by_cases k1 : a.1 = 1
  · rw [if_pos k1]
    exact Ev.yes k1 (Ev.ite (fun h => Ev.some (by rw [if_pos h])) fun h => Ev.some (by rw [if_neg h]))
  rw [if_neg k1]
  refine Ev.no k1 ?_
  by_cases k2 : a.1 = 2
  · rw [if_pos k2]
    exact Ev.yes k2 (Ev.tail (spec_num_all _ hn hn'))
  rw [if_neg k2]
  refine Ev.no k2 ?_
  by_cases k3 : a.1 = 3
  · rw [if_pos k3]
    exact Ev.yes k3 (Ev.tail (spec_quoted_ev _ (by omega)))
  rw [if_neg k3]
  refine Ev.no k3 ?_
  have hq := quoteL_len a.2.2.1
  by_cases k4 : a.1 = 4
  · rw [if_pos k4]
    refine Ev.yes k4 (Ev.yes (by show _ + 2 ≤ 4611686018427387904; omega) ((spec_quoted_ev _ (by omega)).bind (Ev.yes ?_ (Ev.some ?_))))
    · rw [appS_size, bsz (quoteL _)]; show _ + 2 + _ ≤ 4611686018427387904; omega
    · rw [show (⟨#[58, 58]⟩ : ByteArray) = ⟨[(58 : UInt8), 58].toArray⟩ from rfl, appS_mk', appS_mk]
  rw [if_neg k4]
  refine Ev.no k4 ?_
  by_cases k5 : a.1 = 5
  · rw [if_pos k5]
    refine Ev.yes k5 ((spec_size_ev _ hn hn').bind ?_)
    have hl := dec_len19 a.2.1.natAbs (by omega)
    exact Ev.diag (L := fun K j => spec_l1Text.l45 K j ⟨(Go.Lib.decDigits a.2.1.natAbs).toArray⟩ a.1 a.2.1 a.2.2.1 a.2.2.2.1) (l45_ev a.2.1 a.2.1.natAbs rfl (by omega) _ _ _ _ _ rfl (by omega) (pad_dec _))
  rw [if_neg k5]
  refine Ev.no k5 ?_
  by_cases k6 : a.1 = 6
  · rw [if_pos k6]
    obtain ⟨F, b, hF, hb, e1, e2, h0⟩ := addr_parts k6 g
    have z := spec_l1Block_ev a h0 (by omega) (by omega)
    rw [e1] at z
    refine Ev.yes k6 (z.bind ?_)
    unfold addrT
    rw [e1, e2, Int.toNat_natCast, Int.toNat_natCast]
    have q1 := quo_nat F 16777216 (by omega)
    have q2 := quo_nat F 65536 (by omega)
    have q3 := quo_nat F 256 (by omega)
    have r4 := rem_nat F 256
    have r2 := rem_nat (F / 65536) 256
    have r3 := rem_nat (F / 256) 256
    simp only [show ((16777216 : Nat) : Int) = 16777216 from rfl, show ((65536 : Nat) : Int) = 65536 from rfl, show ((256 : Nat) : Int) = 256 from rfl] at q1 q2 q3 r2 r3 r4
    rw [tmod64 h0, e2]
    dsimp only
    rw [q1, q2, q3, r2, r3, r4]
    have l1 := dec_small (F / 16777216) (by omega)
    have l2 := dec_small (F / 65536 % 256) (by omega)
    have l3 := dec_small (F / 256 % 256) (by omega)
    have l4 := dec_small (F % 256) (by omega)
    have l5 := dec_small b (by omega)
    have lm : ∀ l : List UInt8, l.length ≤ 100 → l.length ≤ lim := fun l h => by show _ ≤ 4611686018427387904; omega
    refine (spec_num_nat _ (by omega)).bind ?_
    rw [show (⟨#[46]⟩ : ByteArray) = ⟨[(46 : UInt8)].toArray⟩ from rfl, show (⟨#[47]⟩ : ByteArray) = ⟨[(47 : UInt8)].toArray⟩ from rfl, appS_mk]
    refine Ev.yes (by simp only [bsz]; rw [← List.length_append]; exact lm _ (by simp; omega)) ((spec_num_nat _ (by omega)).bind ?_)
    rw [appS_mk]
    refine Ev.yes (by simp only [bsz]; rw [← List.length_append]; exact lm _ (by simp; omega)) ?_
    rw [appS_mk]
    refine Ev.yes (by simp only [bsz]; rw [← List.length_append]; exact lm _ (by simp; omega)) ((spec_num_nat _ (by omega)).bind ?_)
    rw [appS_mk]
    refine Ev.yes (by simp only [bsz]; rw [← List.length_append]; exact lm _ (by simp; omega)) ?_
    rw [appS_mk]
    refine Ev.yes (by simp only [bsz]; rw [← List.length_append]; exact lm _ (by simp; omega)) ((spec_num_nat _ (by omega)).bind ?_)
    rw [appS_mk]
    refine Ev.yes (by simp only [bsz]; rw [← List.length_append]; exact lm _ (by simp; omega)) ?_
    rw [appS_mk]
    refine Ev.yes (by simp only [bsz]; rw [← List.length_append]; exact lm _ (by simp; omega)) ((spec_num_nat _ (by omega)).bind ?_)
    rw [appS_mk]
    exact Ev.yes (by simp only [bsz]; rw [← List.length_append]; exact lm _ (by simp; omega)) (Ev.some rfl)
  rw [if_neg k6]
  refine Ev.no k6 ?_
  have hi := itoa_len a.2.1 hn hn'
  refine (spec_num_all _ hn hn').bind ?_
  rw [itoaS_list, show (⟨#[64]⟩ : ByteArray) = ⟨[(64 : UInt8)].toArray⟩ from rfl, appS_mk]
  exact Ev.yes (by simp only [bsz]; show 1 + _ ≤ 4611686018427387904; omega) (Ev.some rfl)
theorem fmt_nat (u : Nat) (h : u < 18446744073709551616) : Ev (fun K _ => strconv_FormatUint.f K (u : Int) 10) ⟨(Go.Lib.decDigits u).toArray⟩ := by
  refine Ev.fn (fun k => strconv_FormatUint.f_eq k _ _) (Ev.yes ⟨by omega, by omega, rfl⟩ (Ev.some ?_))
  unfold digS
  rw [Int.toNat_natCast]
theorem wr_u64 (x : Int) : wr .u64 x = x % 18446744073709551616 := by
  show IntKind.u64.wrap x = _
  simp [IntKind.wrap, IntKind.bits, IntKind.signed]
theorem impl_dec_ev (u : Nat) (hu : u ≤ 9223372036854775808) (s : List UInt8) (hs : s.length ≤ 1) (x : Int) (hx : x = (u : Int)) (R : ByteArray) (hR : R = ⟨(s ++ decU u).toArray⟩) :
    Ev (fun K j => (strconv_FormatUint.f K (wr .u64 ((remI x 10000) + 10000)) 10).bind fun t1 => ((strconv_FormatUint.f K (wr .u64 (quoI x 10000)) 10).bind fun t2 => (if (ByteArray.mk s.toArray).size + t2.size ≤ lim then (if (appS (ByteArray.mk s.toArray) t2).size + (⟨#[46]⟩ : ByteArray).size ≤ lim then (if 0 ≤ (1 : Int) ∧ (1 : Int) ≤ (t1.size : Int) ∧ (t1.size : Int) ≤ (t1.size : Int) then (if (appS (appS (ByteArray.mk s.toArray) t2) (⟨#[46]⟩ : ByteArray)).size + (cutS t1 1 (t1.size : Int)).size ≤ lim then (some (appS (appS (appS (ByteArray.mk s.toArray) t2) (⟨#[46]⟩ : ByteArray)) (cutS t1 1 (t1.size : Int)))) else none) else none) else none) else none))) R := by
  subst hx
  have e1 : wr .u64 (remI (u : Int) 10000 + 10000) = ((u % 10000 + 10000 : Nat) : Int) := by
    rw [wr_u64]
    have := rem_nat u 10000
    rw [show ((10000 : Nat) : Int) = 10000 from rfl] at this
    rw [this]; omega
  have e2 : wr .u64 (quoI (u : Int) 10000) = ((u / 10000 : Nat) : Int) := by
    rw [wr_u64]
    unfold quoI
    rw [Int.tdiv_eq_ediv_of_nonneg (by omega)]; omega
  rw [e1, e2]
  refine (fmt_nat _ (by omega)).bind ((fmt_nat _ (by omega)).bind ?_)
  rw [low_eq, cutS_mk, show (⟨#[46]⟩ : ByteArray) = ⟨[(46 : UInt8)].toArray⟩ from rfl]
  simp only [appS_mk, bsz]
  have hl := dec_len19 (u / 10000) (by omega)
  have e3 : ((49 :: d4 u).take ((((49 :: d4 u).length : Nat) : Int)).toNat).drop (1 : Int).toNat = d4 u := by
    rw [Int.toNat_natCast, List.take_length]; rfl
  rw [e3]
  refine Ev.yes (by show _ ≤ 4611686018427387904; omega) (Ev.yes (by rw [List.length_append]; show _ + _ + 1 ≤ 4611686018427387904; omega) (Ev.yes ⟨by omega, by show (1 : Int) ≤ ((5 : Nat) : Int); omega, by omega⟩ (Ev.yes (by simp only [List.length_append]; show _ + _ + 1 + 4 ≤ 4611686018427387904; omega) (Ev.some ?_))))
  rw [hR]
  unfold decU
  simp
theorem fbool_ev (b : Bool) : Ev (fun K _ => strconv_FormatBool.f K b) (if b = true then (⟨#[116, 114, 117, 101]⟩ : ByteArray) else (⟨#[102, 97, 108, 115, 101]⟩ : ByteArray)) :=
  Ev.fn (fun k => strconv_FormatBool.f_eq k b) (Ev.tail (Ev.fn (fun k => internal_strconv_FormatBool.f_eq k b) (Ev.ite (fun h => Ev.some (by rw [if_pos h])) fun h => Ev.some (by rw [if_neg h]))))
theorem impl_AtomText_ev (a : AtT) (hn : -9223372036854775808 ≤ a.2.1) (hn' : a.2.1 ≤ 9223372036854775807) (ht0 : a.2.2.1.size ≤ 140737488351232) (hy0 : a.2.2.2.1.size ≤ 140737488351232) : Ev (fun K _ => impl_AtomText.f K a) (atomT a) := by
  refine Ev.fn (fun k => impl_AtomText.f_eq k a) ((impl_GoodAtom_ev a hn (by omega) ht0 hy0).bind ?_)
  unfold atomT
  refine Ev.ite (fun g => ?_) fun h => by rw [if_neg h]; exact Ev.now _
  rw [if_pos g]
  obtain ⟨ht, hy⟩ := good_text g
  have kinds := good_kind g
  unfold textL
  by_cases k1 : a.1 = 1
  · rw [if_pos k1]
    refine Ev.yes k1 ((fbool_ev _).bind (Ev.some ?_))
    by_cases h : a.2.1 = 1
    · rw [if_pos h, if_pos (decide_eq_true h)]
    · rw [if_neg h, if_neg (by rw [decide_eq_false h]; decide)]
  rw [if_neg k1]
  refine Ev.no k1 ?_
  have hIt : Ev (fun K _ => strconv_Itoa.f K a.2.1) (itoaS a.2.1) := Ev.fn (fun k => strconv_Itoa.f_eq k _) (Ev.yes ⟨hn, hn'⟩ (Ev.now _))
  by_cases k2 : a.1 = 2
  · rw [if_pos k2]
    exact Ev.yes k2 (Ev.tail hIt)
  rw [if_neg k2]
  refine Ev.no k2 ?_
  by_cases k3 : a.1 = 3
  · rw [if_pos k3]
    exact Ev.yes k3 (Ev.tail (impl_quote_ev _ ht))
  rw [if_neg k3]
  refine Ev.no k3 ?_
  have hq := quoteL_len a.2.2.1
  by_cases k4 : a.1 = 4
  · rw [if_pos k4]
    refine Ev.yes k4 (Ev.yes (by show _ + 2 ≤ 4611686018427387904; omega) ((impl_quote_ev _ ht).bind (Ev.yes ?_ (Ev.some ?_))))
    · rw [appS_size, bsz (quoteL _)]; show _ + 2 + _ ≤ 4611686018427387904; omega
    · rw [show (⟨#[58, 58]⟩ : ByteArray) = ⟨[(58 : UInt8), 58].toArray⟩ from rfl, appS_mk', appS_mk]
  rw [if_neg k4]
  refine Ev.no k4 ?_
  by_cases k5 : a.1 = 5
  · rw [if_pos k5]
    refine Ev.yes k5 (Ev.ite (fun h => ?_) fun h => ?_)
    · exact impl_dec_ev a.2.1.natAbs (by omega) [45] (by simp) _ (by rw [wr_u64, wr_u64]; omega) _ (by unfold decT; rw [if_pos h]; rfl)
    · exact impl_dec_ev a.2.1.natAbs (by omega) [] (by simp) _ (by rw [wr_u64]; omega) _ (by unfold decT; rw [if_neg h]; rfl)
  rw [if_neg k5]
  refine Ev.no k5 ?_
  by_cases k6 : a.1 = 6
  · rw [if_pos k6]
    obtain ⟨F, b, hF, hb, e1, e2, h0⟩ := addr_parts k6 g
    refine Ev.yes k6 ?_
    rw [tdiv64 h0 (by omega), e1]
    unfold addrT
    rw [e1, e2, Int.toNat_natCast, Int.toNat_natCast]
    exact Ev.diag (L := fun K j => impl_AtomText.l65 K j (F : Int) ⟨#[]⟩ 24 a.1 a.2.1 a.2.2.1 a.2.2.2.1) (l65_ev F hF b a.2.1 (by rw [tmod64 h0, e2]) (by omega) _ _ _)
  rw [if_neg k6]
  refine Ev.no k6 ?_
  have hi := itoa_len a.2.1 hn hn'
  refine hIt.bind ?_
  rw [itoaS_list, show (⟨#[64]⟩ : ByteArray) = ⟨[(64 : UInt8)].toArray⟩ from rfl, appS_mk]
  exact Ev.yes (by simp only [bsz]; show 1 + _ ≤ 4611686018427387904; omega) (Ev.some rfl)

/-! ### the order of texts -/
def cmpL : List Int → List Int → Int
  | [], [] => 0
  | [], _ :: _ => -1
  | _ :: _, [] => 1
  | a :: l, b :: m => if a = b then cmpL l m else if a < b then -1 else 1
def cmpT (s t : ByteArray) : Int := cmpL (bytesOf s) (bytesOf t)
theorem cmpL_refl : ∀ l : List Int, cmpL l l = 0
  | [] => rfl
  | a :: l => by unfold cmpL; rw [if_pos rfl]; exact cmpL_refl l
theorem cmpL_zero : ∀ {l m : List Int}, cmpL l m = 0 → l = m
  | [], [], _ => rfl
  | [], _ :: _, h => by simp [cmpL] at h
  | _ :: _, [], h => by simp [cmpL] at h
  | a :: l, b :: m, h => by
    unfold cmpL at h
    by_cases e : a = b
    · rw [if_pos e] at h
      rw [e, cmpL_zero h]
    · rw [if_neg e] at h
      split at h <;> omega
theorem cmpL_anti : ∀ (l m : List Int), cmpL m l = - cmpL l m
  | [], [] => rfl
  | [], _ :: _ => rfl
  | _ :: _, [] => rfl
  | a :: l, b :: m => by
    unfold cmpL
    by_cases e : a = b
    · rw [if_pos e, if_pos e.symm]; exact cmpL_anti l m
    · rw [if_neg e, if_neg (Ne.symm e)]
      by_cases h : a < b
      · rw [if_pos h, if_neg (by omega)]; rfl
      · rw [if_neg h, if_pos (by omega)]
theorem cmpL_range (l m : List Int) : cmpL l m = -1 ∨ cmpL l m = 0 ∨ cmpL l m = 1 := by
  induction l generalizing m with
  | nil => cases m <;> simp [cmpL]
  | cons a l ih =>
    cases m with
    | nil => simp [cmpL]
    | cons b m =>
      unfold cmpL
      by_cases e : a = b
      · rw [if_pos e]; exact ih m
      · rw [if_neg e]; split <;> simp
theorem bytesOf_inj {s t : ByteArray} (h : bytesOf s = bytesOf t) : s = t := by
  have e : s.data.toList = t.data.toList := by
    unfold bytesOf at h
    have inj : ∀ (l m : List UInt8), l.map (fun b => (b.toNat : Int)) = m.map (fun b => (b.toNat : Int)) → l = m := by
      intro l
      induction l with
      | nil => intro m h; cases m with
        | nil => rfl
        | cons b m => simp at h
      | cons a l ih => intro m h; cases m with
        | nil => simp at h
        | cons b m =>
          simp only [List.map_cons, List.cons.injEq] at h
          obtain ⟨h1, h2⟩ := h
          have h3 : a.toNat = b.toNat := by omega
          rw [ih m h2, UInt8.toNat_inj.1 h3]
    exact inj _ _ h
  cases s; cases t
  simp only [ByteArray.mk.injEq]
  exact Array.ext' e
theorem cmpT_zero {s t : ByteArray} : cmpT s t = 0 ↔ s = t :=
  ⟨fun h => bytesOf_inj (cmpL_zero h), fun h => by rw [h]; exact cmpL_refl _⟩
theorem cmpT_range (s t : ByteArray) : cmpT s t = -1 ∨ cmpT s t = 0 ∨ cmpT s t = 1 := cmpL_range _ _
theorem bytesLess_iff (s t : ByteArray) : Op.bytesLess s.toList t.toList = true ↔ cmpT s t = -1 := by
  rw [ByteArray.toList_eq, ByteArray.toList_eq]
  unfold cmpT bytesOf
  generalize s.data.toList = l
  generalize t.data.toList = m
  induction l generalizing m with
  | nil => cases m <;> simp [Op.bytesLess, cmpL]
  | cons a l ih =>
    cases m with
    | nil => simp [Op.bytesLess, cmpL]
    | cons b m =>
      simp only [List.map_cons]
      unfold cmpL Op.bytesLess
      by_cases e : a = b
      · subst e
        rw [if_pos rfl, ← ih m]
        simp
      · have hne : (a.toNat : Int) ≠ b.toNat := fun h => e (UInt8.toNat_inj.1 (by omega))
        rw [if_neg hne]
        by_cases h : a < b
        · have : (a.toNat : Int) < b.toNat := by have := UInt8.lt_iff_toNat_lt.1 h; omega
          rw [if_pos this]; simp [h]
        · have h' : ¬ (a.toNat : Int) < b.toNat := fun q => h (UInt8.lt_iff_toNat_lt.2 (by omega))
          rw [if_neg h']; simp [h, e]

theorem spec_l1CmpNum_ev (a b : Int) : Ev (fun K _ => spec_l1CmpNum.f K a b) (if a < b then -1 else if a > b then 1 else 0) :=
  Ev.fn (fun k => spec_l1CmpNum.f_eq k a b) (Ev.ite (fun h => Ev.some (by rw [if_pos h])) fun h => Ev.ite (fun g => Ev.some (by rw [if_neg h, if_pos g])) fun g => Ev.some (by rw [if_neg h, if_neg g]))
theorem spec_l1CmpText_l (s t : ByteArray) (hs : s.size ≤ 140737488351232) (ht : t.size ≤ 140737488351232) : ∀ (d i : Nat), s.size = i + d → i ≤ t.size → Ev (fun K j => spec_l1CmpText.l6 K j s t (i : Int)) (cmpL ((bytesOf s).drop i) ((bytesOf t).drop i)) := by
  have bad : ∀ (i : Nat), i ≤ s.size → i ≤ t.size → (i = s.size ∨ i = t.size) → Ev (fun K _ => (spec_l1CmpNum.f K (s.size : Int) (t.size : Int)).bind fun t0 => some t0) (cmpL ((bytesOf s).drop i) ((bytesOf t).drop i)) := by
    intro i h1 h2 h3
    refine (spec_l1CmpNum_ev _ _).bind (Ev.some ?_)
    rcases h3 with rfl | rfl
    · rw [List.drop_eq_nil_of_le (by rw [bytesOf_length]; exact Nat.le_refl _)]
      by_cases h : s.size < t.size
      · rw [if_pos (by omega), drop_bytes t _ h]; rfl
      · rw [if_neg (by omega), if_neg (by omega), List.drop_eq_nil_of_le (by rw [bytesOf_length]; omega)]; rfl
    · have dz : (bytesOf t).drop t.size = [] := List.drop_eq_nil_of_le (by rw [bytesOf_length]; exact Nat.le_refl _)
      rw [dz]
      by_cases h : t.size < s.size
      · rw [if_neg (by omega), if_pos (by omega), drop_bytes s _ h]; rfl
      · rw [if_neg (by omega), if_neg (by omega), List.drop_eq_nil_of_le (by rw [bytesOf_length]; omega)]; rfl
  intro d
  induction d with
  | zero =>
    intro i h h2
    exact Ev.lp (fun K j => spec_l1CmpText.l6_eq K j s t i) (Ev.no (by omega) (bad i (by omega) h2 (Or.inl (by omega))))
  | succ d ih =>
    intro i h h2
    refine Ev.lp (fun K j => spec_l1CmpText.l6_eq K j s t i) (Ev.yes (by omega) ?_)
    by_cases h3 : i < t.size
    · refine Ev.yes (by omega) (Ev.yes (by omega) (Ev.yes (by omega) ?_))
      rw [drop_bytes s i (by omega), drop_bytes t i h3]
      unfold cmpL
      have b1 := bt_range s i
      have b2 := bt_range t i
      refine Ev.ite (fun e => ?_) fun e => Ev.yes (by omega) (Ev.yes (by omega) ((spec_l1CmpNum_ev _ _).bind (Ev.some ?_)))
      · rw [if_pos e, wrap_nat (by omega)]
        exact ih (i + 1) (by omega) (by omega)
      · rw [if_neg e, wrap_id (by omega) (by omega), wrap_id (by omega) (by omega)]
        by_cases hlt : bt s i < bt t i
        · rw [if_pos hlt, if_pos hlt]
        · rw [if_neg hlt, if_neg hlt, if_pos (by omega)]
    · exact Ev.no (by omega) (bad i (by omega) h2 (Or.inr (by omega)))
theorem spec_l1CmpText_ev (s t : ByteArray) (hs : s.size ≤ 140737488351232) (ht : t.size ≤ 140737488351232) : Ev (fun K _ => spec_l1CmpText.f K s t) (cmpT s t) :=
  Ev.fn (fun k => spec_l1CmpText.f_eq k s t) (Ev.diag (spec_l1CmpText_l s t hs ht s.size 0 (by omega) (by omega)))
theorem less_cmp (s t : ByteArray) : (Op.bytesLess s.toList t.toList = true) ↔ cmpT s t < 0 := by
  rw [bytesLess_iff]
  rcases cmpT_range s t with h | h | h <;> rw [h] <;> decide

abbrev spec_l1CmpText.v (s t : ByteArray) : Int := cmpT s t
theorem spec_l1CmpText.v_ev (s t : ByteArray) (f : fitSh .str s) (g : fitSh .str t) : EvF (.int .i64) (fun K _ => spec_l1CmpText.f K s t) (spec_l1CmpText.v s t) := ⟨spec_l1CmpText_ev s t f g, fit_i64 (by rcases cmpT_range s t with h | h | h <;> rw [spec_l1CmpText.v, h] <;> omega)⟩

def spec_l1CmpNum.v (a0 : Int) (a1 : Int) : Int :=
  (if (a0 : Int) < a1 then (-1) else (if (a0 : Int) > a1 then 1 else 0))
theorem spec_l1CmpNum.v_ev (a0 : Int) (a1 : Int) (f_a0 : fitSh (.int .i64) a0) (f_a1 : fitSh (.int .i64) a1) : EvF (.int .i64) (fun K _ => spec_l1CmpNum.f K a0 a1) (spec_l1CmpNum.v a0 a1) := by
  unfold spec_l1CmpNum.v
  exact EvF.fn (fun k => spec_l1CmpNum.f_eq k a0 a1) (EvF.ite (fun h0 => (EvF.now ((fit_wfb rfl)))) fun h0 => (EvF.ite (fun h1 => (EvF.now ((fit_wfb rfl)))) fun h1 => (EvF.now ((fit_wfb rfl)))))
def spec_l1Cmp.v (a0 : T22) (a1 : T22) : Int :=
  (let t0 := spec_l1CmpNum.v a0.1 a1.1; (if (t0 : Int) = 0 then (let t1 := spec_l1CmpNum.v a0.2.1 a1.2.1; (if (t1 : Int) = 0 then (let t2 := spec_l1CmpText.v a0.2.2.2.1 a1.2.2.2.1; (if (t2 : Int) = 0 then (spec_l1CmpText.v a0.2.2.1 a1.2.2.1) else t2)) else t1)) else t0))
theorem spec_l1Cmp.v_ev (a0 : T22) (a1 : T22) (f_a0 : fitSh S22 a0) (f_a1 : fitSh S22 a1) : EvF (.int .i64) (fun K _ => spec_l1Cmp.f K a0 a1) (spec_l1Cmp.v a0 a1) := by
  unfold spec_l1Cmp.v
  exact EvF.fn (fun k => spec_l1Cmp.f_eq k a0 a1) (EvF.bind (spec_l1CmpNum.v_ev _ _ (f_a0.1) (f_a1.1)) fun f_t0 => (EvF.ite (fun h0 => (EvF.bind (spec_l1CmpNum.v_ev _ _ (f_a0.2.1) (f_a1.2.1)) fun f_t1 => (EvF.ite (fun h1 => (EvF.bind (spec_l1CmpText.v_ev _ _ (f_a0.2.2.2.1) (f_a1.2.2.2.1)) fun f_t2 => (EvF.ite (fun h2 => (EvF.bind (spec_l1CmpText.v_ev _ _ (f_a0.2.2.1) (f_a1.2.2.1)) fun f_t3 => (EvF.now (f_t3)))) fun h2 => (EvF.now (f_t2))))) fun h1 => (EvF.now (f_t1))))) fun h0 => (EvF.now (f_t0))))

def cmp_isNaN_int.v (a0 : Int) : Bool :=
  (!(decide ((a0 : Int) = a0)))
theorem cmp_isNaN_int.v_ev (a0 : Int) (f_a0 : fitSh (.int .i64) a0) : EvF .bool (fun K _ => cmp_isNaN_int.f K a0) (cmp_isNaN_int.v a0) := by
  unfold cmp_isNaN_int.v
  exact EvF.fn (fun k => cmp_isNaN_int.f_eq k a0) (EvF.now (fit_bool _))
def cmp_Compare_int.v (a0 : Int) (a1 : Int) : Int :=
  (let t0 := cmp_isNaN_int.v a0; (let t1 := cmp_isNaN_int.v a1; (if t0 = true then (if t1 = true then 0 else (-1)) else (if t1 = true then 1 else (if (a0 : Int) < a1 then (-1) else (if (a0 : Int) > a1 then 1 else 0))))))
theorem cmp_Compare_int.v_ev (a0 : Int) (a1 : Int) (f_a0 : fitSh (.int .i64) a0) (f_a1 : fitSh (.int .i64) a1) : EvF (.int .i64) (fun K _ => cmp_Compare_int.f K a0 a1) (cmp_Compare_int.v a0 a1) := by
  unfold cmp_Compare_int.v
  exact EvF.fn (fun k => cmp_Compare_int.f_eq k a0 a1) (EvF.bind (cmp_isNaN_int.v_ev _ (f_a0)) fun f_t0 => (EvF.bind (cmp_isNaN_int.v_ev _ (f_a1)) fun f_t1 => (EvF.ite (fun h0 => (EvF.ite (fun h1 => (EvF.now ((fit_wfb rfl)))) fun h1 => (EvF.now ((fit_wfb rfl))))) fun h0 => (EvF.ite (fun h1 => (EvF.now ((fit_wfb rfl)))) fun h1 => (EvF.ite (fun h2 => (EvF.now ((fit_wfb rfl)))) fun h2 => (EvF.ite (fun h3 => (EvF.now ((fit_wfb rfl)))) fun h3 => (EvF.now ((fit_wfb rfl)))))))))
def cmp_isNaN_string.v (a0 : ByteArray) : Bool :=
  (!(decide (a0.toList = a0.toList)))
theorem cmp_isNaN_string.v_ev (a0 : ByteArray) (f_a0 : fitSh .str a0) : EvF .bool (fun K _ => cmp_isNaN_string.f K a0) (cmp_isNaN_string.v a0) := by
  unfold cmp_isNaN_string.v
  exact EvF.fn (fun k => cmp_isNaN_string.f_eq k a0) (EvF.now (fit_bool _))
def cmp_Compare_string.v (a0 : ByteArray) (a1 : ByteArray) : Int :=
  (let t0 := cmp_isNaN_string.v a0; (let t1 := cmp_isNaN_string.v a1; (if t0 = true then (if t1 = true then 0 else (-1)) else (if t1 = true then 1 else (if (Op.bytesLess a0.toList a1.toList) = true then (-1) else (if (Op.bytesLess a0.toList a1.toList || decide (a0.toList = a1.toList)) = true then 0 else 1))))))
theorem cmp_Compare_string.v_ev (a0 : ByteArray) (a1 : ByteArray) (f_a0 : fitSh .str a0) (f_a1 : fitSh .str a1) : EvF (.int .i64) (fun K _ => cmp_Compare_string.f K a0 a1) (cmp_Compare_string.v a0 a1) := by
  unfold cmp_Compare_string.v
  exact EvF.fn (fun k => cmp_Compare_string.f_eq k a0 a1) (EvF.bind (cmp_isNaN_string.v_ev _ (f_a0)) fun f_t0 => (EvF.bind (cmp_isNaN_string.v_ev _ (f_a1)) fun f_t1 => (EvF.ite (fun h0 => (EvF.ite (fun h1 => (EvF.now ((fit_wfb rfl)))) fun h1 => (EvF.now ((fit_wfb rfl))))) fun h0 => (EvF.ite (fun h1 => (EvF.now ((fit_wfb rfl)))) fun h1 => (EvF.ite (fun h2 => (EvF.now ((fit_wfb rfl)))) fun h2 => (EvF.ite (fun h3 => (EvF.now ((fit_wfb rfl)))) fun h3 => (EvF.now ((fit_wfb rfl)))))))))
def cmp_Or_int.l8.v (x3 : Int)  : List Int → Nat → Int
  | [], i => x3
  | e :: rest, i => (if (e : Int) = x3 then (cmp_Or_int.l8.v x3 rest (i + 1)) else e)
theorem cmp_Or_int.l8.v_ev (x3 : Int) (x6 : (List Int)) (f_x3 : fitSh (.int .i64) x3) (f_x6 : fitSh (.list (.int .i64)) x6)  : ∀ (rest : List Int) (i : Nat)  , x6.drop i = rest → EvF (.int .i64) (fun K j => cmp_Or_int.l8 K j x3 x6 (x6.length : Int) (i : Int)) (cmp_Or_int.l8.v x3 rest i ) := by
  have bX : x6.length ≤ 140737488351232 := f_x6.1
  intro rest
  induction rest with
  | nil =>
    intro i hd
    have hz := drop_none hd
    unfold cmp_Or_int.l8.v
    exact EvF.lp (fun K j => cmp_Or_int.l8_eq K j x3 x6 (x6.length : Int) (i : Int)) (EvF.no (by omega) (EvF.now (f_x3)))
  | cons e rest ih =>
    intro i hd
    obtain ⟨hlt, hd2, hx⟩ := drop_more hd
    have f_e : fitSh (.int .i64) e := hx (dflt (.int .i64)) ▸ fit_rd f_x6 _
    have f_i : fitSh (.int .i64) (i : Int) := fit_len (by omega)
    unfold cmp_Or_int.l8.v
    refine EvF.lp (fun K j => cmp_Or_int.l8_eq K j x3 x6 (x6.length : Int) (i : Int)) (EvF.yes (by omega) ?_)
    try rw [hx]
    try rw [wrap_nat (i := i) (by omega)]
    exact (EvF.yes (by first | omega | (simp only [wrap64] at *; omega)) (EvF.ite (fun h0 => (ih (i + 1)   hd2)) fun h0 => (EvF.now (f_e))))
def cmp_Or_int.v (a0 : (List Int)) : Int :=
  (cmp_Or_int.l8.v 0 a0 0)
theorem cmp_Or_int.v_ev (a0 : (List Int)) (f_a0 : fitSh (.list (.int .i64)) a0) : EvF (.int .i64) (fun K _ => cmp_Or_int.f K a0) (cmp_Or_int.v a0) := by
  unfold cmp_Or_int.v
  exact EvF.fn (fun k => cmp_Or_int.f_eq k a0) (EvF.diag (cmp_Or_int.l8.v_ev 0 a0 ((fit_wfb rfl)) (f_a0)  _ 0    rfl))
def impl_ycmpAtom.v (a0 : T22) (a1 : T22) : Int :=
  (let t0 := cmp_Compare_int.v a0.1 a1.1; (let t1 := cmp_Compare_int.v a0.2.1 a1.2.1; (let t2 := cmp_Compare_string.v a0.2.2.2.1 a1.2.2.2.1; (let t3 := cmp_Compare_string.v a0.2.2.1 a1.2.2.1; (cmp_Or_int.v [t0, t1, t2, t3])))))
theorem impl_ycmpAtom.v_ev (a0 : T22) (a1 : T22) (f_a0 : fitSh S22 a0) (f_a1 : fitSh S22 a1) : EvF (.int .i64) (fun K _ => impl_ycmpAtom.f K a0 a1) (impl_ycmpAtom.v a0 a1) := by
  unfold impl_ycmpAtom.v
  exact EvF.fn (fun k => impl_ycmpAtom.f_eq k a0 a1) (EvF.bind (cmp_Compare_int.v_ev _ _ (f_a0.1) (f_a1.1)) fun f_t0 => (EvF.bind (cmp_Compare_int.v_ev _ _ (f_a0.2.1) (f_a1.2.1)) fun f_t1 => (EvF.bind (cmp_Compare_string.v_ev _ _ (f_a0.2.2.2.1) (f_a1.2.2.2.1)) fun f_t2 => (EvF.bind (cmp_Compare_string.v_ev _ _ (f_a0.2.2.1) (f_a1.2.2.1)) fun f_t3 => (EvF.bind (cmp_Or_int.v_ev _ (fit_lst (Nat.le_of_ble_eq_true rfl) (fit_cons (f_t0) (fit_cons (f_t1) (fit_cons (f_t2) (fit_cons (f_t3) (fun _ hx => by cases hx))))))) fun f_t4 => (EvF.now (f_t4)))))))

theorem compare_int (a b : Int) : cmp_Compare_int.v a b = spec_l1CmpNum.v a b := by
  unfold cmp_Compare_int.v spec_l1CmpNum.v cmp_isNaN_int.v; simp
theorem compare_string (s t : ByteArray) : cmp_Compare_string.v s t = cmpT s t := by
  unfold cmp_Compare_string.v cmp_isNaN_string.v
  simp only [decide_true, Bool.not_true, Bool.false_eq_true, if_false]
  by_cases h : Op.bytesLess s.toList t.toList = true
  · rw [if_pos h, (bytesLess_iff s t).1 h]
  · have h1 : cmpT s t ≠ -1 := fun q => h ((bytesLess_iff s t).2 q)
    rw [if_neg h]
    by_cases e : s.toList = t.toList
    · have e2 : s = t := bytesOf_inj (by
        have e1 : s.data.toList = t.data.toList := by rw [← ByteArray.toList_eq, ← ByteArray.toList_eq, e]
        unfold bytesOf; rw [e1])
      rw [if_pos (by simp [e]), cmpT_zero.2 e2]
    · have h2 : cmpT s t ≠ 0 := fun q => e (by rw [cmpT_zero.1 q])
      rw [if_neg (by simp [h, e])]
      rcases cmpT_range s t with q | q | q <;> omega
theorem or4 (a b c d : Int) : cmp_Or_int.v [a, b, c, d] = if a = 0 then (if b = 0 then (if c = 0 then d else c) else b) else a := by
  unfold cmp_Or_int.v
  simp only [cmp_Or_int.l8.v]
  by_cases h : d = 0
  · rw [if_pos h, h]
  · rw [if_neg h]
theorem cmpAtom_same (a b : T22) : impl_ycmpAtom.v a b = spec_l1Cmp.v a b := by
  unfold impl_ycmpAtom.v spec_l1Cmp.v
  simp only [compare_int, compare_string, or4]

def spec_GoodValue.l70.v (x86 : (List ByteArray))  : List ByteArray → Nat → Bool
  | [], i => true
  | e :: rest, i => (let t0 := spec_GoodName.v e; (if t0 = true then (if ((i : Int) : Int) > 0 then (let t1 := spec_l1CmpText.v (rd (⟨#[]⟩ : ByteArray) x86 (wrap64 ((i : Int) - 1))) e; (if (t1 : Int) ≥ 0 then false else (spec_GoodValue.l70.v x86 rest (i + 1)))) else (spec_GoodValue.l70.v x86 rest (i + 1))) else false))
theorem spec_GoodValue.l70.v_ev (x86 : (List ByteArray)) (y0_0 : Int) (y0_1 : Int) (y0_2 : Int) (y0_3 : ByteArray) (y0_4 : ByteArray) (y0_5 : (List T22)) (f_x86 : fitSh (.list .str) x86) (f_y0_0 : fitSh (.int .i64) y0_0) (f_y0_1 : fitSh (.int .i64) y0_1) (f_y0_2 : fitSh (.int .i64) y0_2) (f_y0_3 : fitSh .str y0_3) (f_y0_4 : fitSh .str y0_4) (f_y0_5 : fitSh (.list S22) y0_5)  : ∀ (rest : List ByteArray) (i : Nat)  , x86.drop i = rest → EvF .bool (fun K j => spec_GoodValue.l70 K j x86 (x86.length : Int) (i : Int) y0_0 y0_1 y0_2 y0_3 y0_4 y0_5 x86) (spec_GoodValue.l70.v x86 rest i ) := by
  have bX : x86.length ≤ 140737488351232 := f_x86.1
  intro rest
  induction rest with
  | nil =>
    intro i hd
    have hz := drop_none hd
    unfold spec_GoodValue.l70.v
    exact EvF.lp (fun K j => spec_GoodValue.l70_eq K j x86 (x86.length : Int) (i : Int) y0_0 y0_1 y0_2 y0_3 y0_4 y0_5 x86) (EvF.no (by omega) (EvF.now (fit_bool _)))
  | cons e rest ih =>
    intro i hd
    obtain ⟨hlt, hd2, hx⟩ := drop_more hd
    have f_e : fitSh .str e := hx (dflt .str) ▸ fit_rd f_x86 _
    have f_i : fitSh (.int .i64) (i : Int) := fit_len (by omega)
    unfold spec_GoodValue.l70.v
    refine EvF.lp (fun K j => spec_GoodValue.l70_eq K j x86 (x86.length : Int) (i : Int) y0_0 y0_1 y0_2 y0_3 y0_4 y0_5 x86) (EvF.yes (by omega) ?_)
    try rw [hx]
    try rw [wrap_nat (i := i) (by omega)]
    exact (EvF.yes (by first | omega | (simp only [wrap64] at *; omega)) (EvF.bind (spec_GoodName.v_ev _ (f_e)) fun f_t0 => (EvF.ite (fun h0 => (EvF.ite (fun h1 => (EvF.yes (by first | omega | (simp only [wrap64] at *; omega)) (EvF.bind (spec_l1CmpText.v_ev _ _ ((fit_rd (f_x86) _)) (f_e)) fun f_t1 => (EvF.ite (fun h2 => (EvF.now (fit_bool _))) fun h2 => (ih (i + 1)   hd2))))) fun h1 => (ih (i + 1)   hd2))) fun h0 => (EvF.now (fit_bool _)))))
def spec_GoodValue.l31.v (x40 : (List T22)) (y0_0 : Int) (y0_6 : (List ByteArray))  : List T22 → Nat → Bool
  | [], i => (if (y0_0 : Int) = 2 then (decide (((y0_6.length : Int) : Int) = 0)) else (if ((y0_6.length : Int) : Int) = (x40.length : Int) then (spec_GoodValue.l70.v y0_6 y0_6 0) else false))
  | e :: rest, i => (let t0 := spec_GoodAtom.v e; (if t0 = true then (if (y0_0 : Int) = 2 then (if ((i : Int) : Int) > 0 then (let t1 := spec_l1Cmp.v (rd Z22 x40 (wrap64 ((i : Int) - 1))) e; (if (t1 : Int) ≥ 0 then false else (spec_GoodValue.l31.v x40 y0_0 y0_6 rest (i + 1)))) else (spec_GoodValue.l31.v x40 y0_0 y0_6 rest (i + 1))) else (spec_GoodValue.l31.v x40 y0_0 y0_6 rest (i + 1))) else false))
theorem spec_GoodValue.l31.v_ev (x40 : (List T22)) (y0_0 : Int) (y0_1 : Int) (y0_2 : Int) (y0_3 : ByteArray) (y0_4 : ByteArray) (y0_6 : (List ByteArray)) (f_x40 : fitSh (.list S22) x40) (f_y0_0 : fitSh (.int .i64) y0_0) (f_y0_1 : fitSh (.int .i64) y0_1) (f_y0_2 : fitSh (.int .i64) y0_2) (f_y0_3 : fitSh .str y0_3) (f_y0_4 : fitSh .str y0_4) (f_y0_6 : fitSh (.list .str) y0_6)  : ∀ (rest : List T22) (i : Nat)  , x40.drop i = rest → EvF .bool (fun K j => spec_GoodValue.l31 K j x40 (x40.length : Int) (i : Int) y0_0 y0_1 y0_2 y0_3 y0_4 x40 y0_6) (spec_GoodValue.l31.v x40 y0_0 y0_6 rest i ) := by
  have bX : x40.length ≤ 140737488351232 := f_x40.1
  intro rest
  induction rest with
  | nil =>
    intro i hd
    have hz := drop_none hd
    unfold spec_GoodValue.l31.v
    exact EvF.lp (fun K j => spec_GoodValue.l31_eq K j x40 (x40.length : Int) (i : Int) y0_0 y0_1 y0_2 y0_3 y0_4 x40 y0_6) (EvF.no (by omega) (EvF.ite (fun h0 => (EvF.now (fit_bool _))) fun h0 => (EvF.ite (fun h1 => (spec_GoodValue.l70.v_ev y0_6 y0_0 y0_1 y0_2 y0_3 y0_4 x40 (f_y0_6) (f_y0_0) (f_y0_1) (f_y0_2) (f_y0_3) (f_y0_4) (f_x40)  _ 0    rfl)) fun h1 => (EvF.now (fit_bool _)))))
  | cons e rest ih =>
    intro i hd
    obtain ⟨hlt, hd2, hx⟩ := drop_more hd
    have f_e : fitSh S22 e := hx (dflt S22) ▸ fit_rd f_x40 _
    have f_i : fitSh (.int .i64) (i : Int) := fit_len (by omega)
    unfold spec_GoodValue.l31.v
    refine EvF.lp (fun K j => spec_GoodValue.l31_eq K j x40 (x40.length : Int) (i : Int) y0_0 y0_1 y0_2 y0_3 y0_4 x40 y0_6) (EvF.yes (by omega) ?_)
    try rw [hx]
    try rw [wrap_nat (i := i) (by omega)]
    exact (EvF.yes (by first | omega | (simp only [wrap64] at *; omega)) (EvF.bind (spec_GoodAtom.v_ev _ (f_e)) fun f_t0 => (EvF.ite (fun h0 => (EvF.ite (fun h1 => (EvF.ite (fun h2 => (EvF.yes (by first | omega | (simp only [wrap64] at *; omega)) (EvF.bind (spec_l1Cmp.v_ev _ _ ((fit_rd (f_x40) _)) (f_e)) fun f_t1 => (EvF.ite (fun h3 => (EvF.now (fit_bool _))) fun h3 => (ih (i + 1)   hd2))))) fun h2 => (ih (i + 1)   hd2))) fun h1 => (ih (i + 1)   hd2))) fun h0 => (EvF.now (fit_bool _)))))
def spec_GoodValue.v (a0 : T26) : Bool :=
  (if (a0.1 : Int) = 1 then (let t0 := spec_GoodAtom.v a0.2.1; (if t0 = true then (if ((a0.2.2.1.length : Int) : Int) = 0 then (decide (((a0.2.2.2.1.length : Int) : Int) = 0)) else false) else false)) else (if (a0.1 : Int) = 2 then (if (a0.1 : Int) = 2 then (if (eqD S22 (a0.2.1 : T22) ((0, (0, ((⟨#[]⟩ : ByteArray), ((⟨#[]⟩ : ByteArray), ())))) : T22)) = true then (if ((a0.2.2.1.length : Int) : Int) > 50 then false else (spec_GoodValue.l31.v a0.2.2.1 a0.1 a0.2.2.2.1 a0.2.2.1 0)) else false) else false) else (if (a0.1 : Int) = 3 then (if (eqD S22 (a0.2.1 : T22) ((0, (0, ((⟨#[]⟩ : ByteArray), ((⟨#[]⟩ : ByteArray), ())))) : T22)) = true then (if ((a0.2.2.1.length : Int) : Int) > 50 then false else (spec_GoodValue.l31.v a0.2.2.1 a0.1 a0.2.2.2.1 a0.2.2.1 0)) else false) else false)))
theorem spec_GoodValue.v_ev (a0 : T26) (f_a0 : fitSh S26 a0) : EvF .bool (fun K _ => spec_GoodValue.f K a0) (spec_GoodValue.v a0) := by
  unfold spec_GoodValue.v
  exact EvF.fn (fun k => spec_GoodValue.f_eq k a0) (EvF.ite (fun h0 => (EvF.bind (spec_GoodAtom.v_ev _ (f_a0.2.1)) fun f_t0 => (EvF.ite (fun h1 => (EvF.ite (fun h2 => (EvF.now (fit_bool _))) fun h2 => (EvF.now (fit_bool _)))) fun h1 => (EvF.now (fit_bool _))))) fun h0 => (EvF.ite (fun h1 => (EvF.ite (fun h2 => (EvF.ite (fun h3 => (EvF.ite (fun h4 => (EvF.now (fit_bool _))) fun h4 => (EvF.diag (spec_GoodValue.l31.v_ev a0.2.2.1 a0.1 a0.2.1.1 a0.2.1.2.1 a0.2.1.2.2.1 a0.2.1.2.2.2.1 a0.2.2.2.1 (f_a0.2.2.1) (f_a0.1) (f_a0.2.1.1) (f_a0.2.1.2.1) (f_a0.2.1.2.2.1) (f_a0.2.1.2.2.2.1) (f_a0.2.2.2.1)  _ 0    rfl)))) fun h3 => (EvF.now (fit_bool _)))) fun h2 => (EvF.now (fit_bool _)))) fun h1 => (EvF.ite (fun h2 => (EvF.ite (fun h3 => (EvF.ite (fun h4 => (EvF.now (fit_bool _))) fun h4 => (EvF.diag (spec_GoodValue.l31.v_ev a0.2.2.1 a0.1 a0.2.1.1 a0.2.1.2.1 a0.2.1.2.2.1 a0.2.1.2.2.2.1 a0.2.2.2.1 (f_a0.2.2.1) (f_a0.1) (f_a0.2.1.1) (f_a0.2.1.2.1) (f_a0.2.1.2.2.1) (f_a0.2.1.2.2.2.1) (f_a0.2.2.2.1)  _ 0    rfl)))) fun h3 => (EvF.now (fit_bool _)))) fun h2 => (EvF.now (fit_bool _)))))

def impl_yzeroAtom.v (a0 : T22) : Bool :=
  (eqD S22 (a0 : T22) ((0, (0, ((⟨#[]⟩ : ByteArray), ((⟨#[]⟩ : ByteArray), ())))) : T22))
theorem impl_yzeroAtom.v_ev (a0 : T22) (f_a0 : fitSh S22 a0) : EvF .bool (fun K _ => impl_yzeroAtom.f K a0) (impl_yzeroAtom.v a0) := by
  unfold impl_yzeroAtom.v
  exact EvF.fn (fun k => impl_yzeroAtom.f_eq k a0) (EvF.now (fit_bool _))
def impl_yrisingAtoms.l6.v (x5 : (List T22))  : List T22 → Nat → Bool
  | [], i => true
  | e :: rest, i => (let t0 := impl_GoodAtom.v e; (if t0 = true then (if ((i : Int) : Int) > 0 then (let t1 := impl_ycmpAtom.v (rd Z22 x5 (wrap64 ((i : Int) - 1))) e; (if (t1 : Int) ≥ 0 then false else (impl_yrisingAtoms.l6.v x5 rest (i + 1)))) else (impl_yrisingAtoms.l6.v x5 rest (i + 1))) else false))
theorem impl_yrisingAtoms.l6.v_ev (x5 : (List T22)) (f_x5 : fitSh (.list S22) x5)  : ∀ (rest : List T22) (i : Nat)  , x5.drop i = rest → EvF .bool (fun K j => impl_yrisingAtoms.l6 K j x5 x5 (x5.length : Int) (i : Int)) (impl_yrisingAtoms.l6.v x5 rest i ) := by
  have bX : x5.length ≤ 140737488351232 := f_x5.1
  intro rest
  induction rest with
  | nil =>
    intro i hd
    have hz := drop_none hd
    unfold impl_yrisingAtoms.l6.v
    exact EvF.lp (fun K j => impl_yrisingAtoms.l6_eq K j x5 x5 (x5.length : Int) (i : Int)) (EvF.no (by omega) (EvF.now (fit_bool _)))
  | cons e rest ih =>
    intro i hd
    obtain ⟨hlt, hd2, hx⟩ := drop_more hd
    have f_e : fitSh S22 e := hx (dflt S22) ▸ fit_rd f_x5 _
    have f_i : fitSh (.int .i64) (i : Int) := fit_len (by omega)
    unfold impl_yrisingAtoms.l6.v
    refine EvF.lp (fun K j => impl_yrisingAtoms.l6_eq K j x5 x5 (x5.length : Int) (i : Int)) (EvF.yes (by omega) ?_)
    try rw [hx]
    try rw [wrap_nat (i := i) (by omega)]
    exact (EvF.yes (by first | omega | (simp only [wrap64] at *; omega)) (EvF.bind (impl_GoodAtom.v_ev _ (f_e)) fun f_t0 => (EvF.ite (fun h0 => (EvF.ite (fun h1 => (EvF.yes (by first | omega | (simp only [wrap64] at *; omega)) (EvF.bind (impl_ycmpAtom.v_ev _ _ ((fit_rd (f_x5) _)) (f_e)) fun f_t1 => (EvF.ite (fun h2 => (EvF.now (fit_bool _))) fun h2 => (ih (i + 1)   hd2))))) fun h1 => (ih (i + 1)   hd2))) fun h0 => (EvF.now (fit_bool _)))))
def impl_yrisingAtoms.v (a0 : (List T22)) : Bool :=
  (impl_yrisingAtoms.l6.v a0 a0 0)
theorem impl_yrisingAtoms.v_ev (a0 : (List T22)) (f_a0 : fitSh (.list S22) a0) : EvF .bool (fun K _ => impl_yrisingAtoms.f K a0) (impl_yrisingAtoms.v a0) := by
  unfold impl_yrisingAtoms.v
  exact EvF.fn (fun k => impl_yrisingAtoms.f_eq k a0) (EvF.diag (impl_yrisingAtoms.l6.v_ev a0 (f_a0)  _ 0    rfl))
def impl_yallNames_1.v (a0 : ByteArray) : Bool :=
  (let t0 := impl_GoodName.v a0; (!t0))
theorem impl_yallNames_1.v_ev (a0 : ByteArray) (f_a0 : fitSh .str a0) : EvF .bool (fun K _ => impl_yallNames_1.f K a0) (impl_yallNames_1.v a0) := by
  unfold impl_yallNames_1.v
  exact EvF.fn (fun k => impl_yallNames_1.f_eq k a0) (EvF.bind (impl_GoodName.v_ev _ (f_a0)) fun f_t0 => (EvF.now (fit_bool _)))
def slices_IndexFunc_string_string.l6.v   : List ByteArray → Nat → Int
  | [], i => (-1)
  | e :: rest, i => (let t0 := impl_yallNames_1.v e; (if t0 = true then (i : Int) else (slices_IndexFunc_string_string.l6.v rest (i + 1))))
theorem slices_IndexFunc_string_string.l6.v_ev (x0 : (List ByteArray)) (f_x0 : fitSh (.list .str) x0)  : ∀ (rest : List ByteArray) (i : Nat)  , x0.drop i = rest → EvF (.int .i64) (fun K j => slices_IndexFunc_string_string.l6 K j x0 (x0.length : Int) (i : Int)) (slices_IndexFunc_string_string.l6.v  rest i ) := by
  have bX : x0.length ≤ 140737488351232 := f_x0.1
  intro rest
  induction rest with
  | nil =>
    intro i hd
    have hz := drop_none hd
    unfold slices_IndexFunc_string_string.l6.v
    exact EvF.lp (fun K j => slices_IndexFunc_string_string.l6_eq K j x0 (x0.length : Int) (i : Int)) (EvF.no (by omega) (EvF.now ((fit_wfb rfl))))
  | cons e rest ih =>
    intro i hd
    obtain ⟨hlt, hd2, hx⟩ := drop_more hd
    have f_e : fitSh .str e := hx (dflt .str) ▸ fit_rd f_x0 _
    have f_i : fitSh (.int .i64) (i : Int) := fit_len (by omega)
    unfold slices_IndexFunc_string_string.l6.v
    refine EvF.lp (fun K j => slices_IndexFunc_string_string.l6_eq K j x0 (x0.length : Int) (i : Int)) (EvF.yes (by omega) ?_)
    try rw [hx]
    try rw [wrap_nat (i := i) (by omega)]
    exact (EvF.yes (by first | omega | (simp only [wrap64] at *; omega)) (EvF.bind (impl_yallNames_1.v_ev _ (f_e)) fun f_t0 => (EvF.ite (fun h0 => (EvF.now (f_i))) fun h0 => (ih (i + 1)   hd2))))
def slices_IndexFunc_string_string.v (a0 : (List ByteArray)) : Int :=
  (slices_IndexFunc_string_string.l6.v a0 0)
theorem slices_IndexFunc_string_string.v_ev (a0 : (List ByteArray)) (f_a0 : fitSh (.list .str) a0) : EvF (.int .i64) (fun K _ => slices_IndexFunc_string_string.f K a0) (slices_IndexFunc_string_string.v a0) := by
  unfold slices_IndexFunc_string_string.v
  exact EvF.fn (fun k => slices_IndexFunc_string_string.f_eq k a0) (EvF.diag (slices_IndexFunc_string_string.l6.v_ev a0 (f_a0)  _ 0    rfl))
def slices_ContainsFunc_string_string.v (a0 : (List ByteArray)) : Bool :=
  (let t0 := slices_IndexFunc_string_string.v a0; (decide ((t0 : Int) ≥ 0)))
theorem slices_ContainsFunc_string_string.v_ev (a0 : (List ByteArray)) (f_a0 : fitSh (.list .str) a0) : EvF .bool (fun K _ => slices_ContainsFunc_string_string.f K a0) (slices_ContainsFunc_string_string.v a0) := by
  unfold slices_ContainsFunc_string_string.v
  exact EvF.fn (fun k => slices_ContainsFunc_string_string.f_eq k a0) (EvF.bind (slices_IndexFunc_string_string.v_ev _ (f_a0)) fun f_t0 => (EvF.now (fit_bool _)))
def impl_yallNames.v (a0 : (List ByteArray)) : Bool :=
  (let t0 := slices_ContainsFunc_string_string.v a0; (!t0))
theorem impl_yallNames.v_ev (a0 : (List ByteArray)) (f_a0 : fitSh (.list .str) a0) : EvF .bool (fun K _ => impl_yallNames.f K a0) (impl_yallNames.v a0) := by
  unfold impl_yallNames.v
  exact EvF.fn (fun k => impl_yallNames.f_eq k a0) (EvF.bind (slices_ContainsFunc_string_string.v_ev _ (f_a0)) fun f_t0 => (EvF.now (fit_bool _)))
def impl_yrising.l6.v (x5 : (List ByteArray))  : List ByteArray → Nat → Bool
  | [], i => true
  | e :: rest, i => (if ((i : Int) : Int) > 0 then (if (Op.bytesLess (rd (⟨#[]⟩ : ByteArray) x5 (wrap64 ((i : Int) - 1))).toList e.toList) = true then (impl_yrising.l6.v x5 rest (i + 1)) else false) else (impl_yrising.l6.v x5 rest (i + 1)))
theorem impl_yrising.l6.v_ev (x5 : (List ByteArray)) (f_x5 : fitSh (.list .str) x5)  : ∀ (rest : List ByteArray) (i : Nat)  , x5.drop i = rest → EvF .bool (fun K j => impl_yrising.l6 K j x5 x5 (x5.length : Int) (i : Int)) (impl_yrising.l6.v x5 rest i ) := by
  have bX : x5.length ≤ 140737488351232 := f_x5.1
  intro rest
  induction rest with
  | nil =>
    intro i hd
    have hz := drop_none hd
    unfold impl_yrising.l6.v
    exact EvF.lp (fun K j => impl_yrising.l6_eq K j x5 x5 (x5.length : Int) (i : Int)) (EvF.no (by omega) (EvF.now (fit_bool _)))
  | cons e rest ih =>
    intro i hd
    obtain ⟨hlt, hd2, hx⟩ := drop_more hd
    have f_e : fitSh .str e := hx (dflt .str) ▸ fit_rd f_x5 _
    have f_i : fitSh (.int .i64) (i : Int) := fit_len (by omega)
    unfold impl_yrising.l6.v
    refine EvF.lp (fun K j => impl_yrising.l6_eq K j x5 x5 (x5.length : Int) (i : Int)) (EvF.yes (by omega) ?_)
    try rw [hx]
    try rw [wrap_nat (i := i) (by omega)]
    exact (EvF.yes (by first | omega | (simp only [wrap64] at *; omega)) (EvF.ite (fun h0 => (EvF.yes (by first | omega | (simp only [wrap64] at *; omega)) (EvF.ite (fun h1 => (ih (i + 1)   hd2)) fun h1 => (EvF.now (fit_bool _))))) fun h0 => (ih (i + 1)   hd2)))
def impl_yrising.v (a0 : (List ByteArray)) : Bool :=
  (impl_yrising.l6.v a0 a0 0)
theorem impl_yrising.v_ev (a0 : (List ByteArray)) (f_a0 : fitSh (.list .str) a0) : EvF .bool (fun K _ => impl_yrising.f K a0) (impl_yrising.v a0) := by
  unfold impl_yrising.v
  exact EvF.fn (fun k => impl_yrising.f_eq k a0) (EvF.diag (impl_yrising.l6.v_ev a0 (f_a0)  _ 0    rfl))
def impl_GoodValue_1.v (a0 : T22) : Bool :=
  (let t0 := impl_GoodAtom.v a0; (!t0))
theorem impl_GoodValue_1.v_ev (a0 : T22) (f_a0 : fitSh S22 a0) : EvF .bool (fun K _ => impl_GoodValue_1.f K a0) (impl_GoodValue_1.v a0) := by
  unfold impl_GoodValue_1.v
  exact EvF.fn (fun k => impl_GoodValue_1.f_eq k a0) (EvF.bind (impl_GoodAtom.v_ev _ (f_a0)) fun f_t0 => (EvF.now (fit_bool _)))
def slices_IndexFunc_impl_Atom_impl_Atom.l6.v   : List T22 → Nat → Int
  | [], i => (-1)
  | e :: rest, i => (let t0 := impl_GoodValue_1.v e; (if t0 = true then (i : Int) else (slices_IndexFunc_impl_Atom_impl_Atom.l6.v rest (i + 1))))
theorem slices_IndexFunc_impl_Atom_impl_Atom.l6.v_ev (x0 : (List T22)) (f_x0 : fitSh (.list S22) x0)  : ∀ (rest : List T22) (i : Nat)  , x0.drop i = rest → EvF (.int .i64) (fun K j => slices_IndexFunc_impl_Atom_impl_Atom.l6 K j x0 (x0.length : Int) (i : Int)) (slices_IndexFunc_impl_Atom_impl_Atom.l6.v  rest i ) := by
  have bX : x0.length ≤ 140737488351232 := f_x0.1
  intro rest
  induction rest with
  | nil =>
    intro i hd
    have hz := drop_none hd
    unfold slices_IndexFunc_impl_Atom_impl_Atom.l6.v
    exact EvF.lp (fun K j => slices_IndexFunc_impl_Atom_impl_Atom.l6_eq K j x0 (x0.length : Int) (i : Int)) (EvF.no (by omega) (EvF.now ((fit_wfb rfl))))
  | cons e rest ih =>
    intro i hd
    obtain ⟨hlt, hd2, hx⟩ := drop_more hd
    have f_e : fitSh S22 e := hx (dflt S22) ▸ fit_rd f_x0 _
    have f_i : fitSh (.int .i64) (i : Int) := fit_len (by omega)
    unfold slices_IndexFunc_impl_Atom_impl_Atom.l6.v
    refine EvF.lp (fun K j => slices_IndexFunc_impl_Atom_impl_Atom.l6_eq K j x0 (x0.length : Int) (i : Int)) (EvF.yes (by omega) ?_)
    try rw [hx]
    try rw [wrap_nat (i := i) (by omega)]
    exact (EvF.yes (by first | omega | (simp only [wrap64] at *; omega)) (EvF.bind (impl_GoodValue_1.v_ev _ (f_e)) fun f_t0 => (EvF.ite (fun h0 => (EvF.now (f_i))) fun h0 => (ih (i + 1)   hd2))))
def slices_IndexFunc_impl_Atom_impl_Atom.v (a0 : (List T22)) : Int :=
  (slices_IndexFunc_impl_Atom_impl_Atom.l6.v a0 0)
theorem slices_IndexFunc_impl_Atom_impl_Atom.v_ev (a0 : (List T22)) (f_a0 : fitSh (.list S22) a0) : EvF (.int .i64) (fun K _ => slices_IndexFunc_impl_Atom_impl_Atom.f K a0) (slices_IndexFunc_impl_Atom_impl_Atom.v a0) := by
  unfold slices_IndexFunc_impl_Atom_impl_Atom.v
  exact EvF.fn (fun k => slices_IndexFunc_impl_Atom_impl_Atom.f_eq k a0) (EvF.diag (slices_IndexFunc_impl_Atom_impl_Atom.l6.v_ev a0 (f_a0)  _ 0    rfl))
def slices_ContainsFunc_impl_Atom_impl_Atom.v (a0 : (List T22)) : Bool :=
  (let t0 := slices_IndexFunc_impl_Atom_impl_Atom.v a0; (decide ((t0 : Int) ≥ 0)))
theorem slices_ContainsFunc_impl_Atom_impl_Atom.v_ev (a0 : (List T22)) (f_a0 : fitSh (.list S22) a0) : EvF .bool (fun K _ => slices_ContainsFunc_impl_Atom_impl_Atom.f K a0) (slices_ContainsFunc_impl_Atom_impl_Atom.v a0) := by
  unfold slices_ContainsFunc_impl_Atom_impl_Atom.v
  exact EvF.fn (fun k => slices_ContainsFunc_impl_Atom_impl_Atom.f_eq k a0) (EvF.bind (slices_IndexFunc_impl_Atom_impl_Atom.v_ev _ (f_a0)) fun f_t0 => (EvF.now (fit_bool _)))
def impl_GoodValue.v (a0 : T26) : Bool :=
  (if (a0.1 : Int) = 1 then (let t0 := impl_GoodAtom.v a0.2.1; (if t0 = true then (if ((a0.2.2.1.length : Int) : Int) = 0 then (decide (((a0.2.2.2.1.length : Int) : Int) = 0)) else false) else false)) else (if (a0.1 : Int) = 2 then (let t0 := impl_yzeroAtom.v a0.2.1; (if t0 = true then (if ((a0.2.2.1.length : Int) : Int) ≤ 50 then (if ((a0.2.2.2.1.length : Int) : Int) = 0 then (impl_yrisingAtoms.v a0.2.2.1) else false) else false) else false)) else (if (a0.1 : Int) = 3 then (let t0 := impl_yzeroAtom.v a0.2.1; (if t0 = true then (if ((a0.2.2.2.1.length : Int) : Int) ≤ 50 then (if ((a0.2.2.1.length : Int) : Int) = (a0.2.2.2.1.length : Int) then (let t1 := impl_yallNames.v a0.2.2.2.1; (if t1 = true then (let t2 := impl_yrising.v a0.2.2.2.1; (if t2 = true then (let t3 := slices_ContainsFunc_impl_Atom_impl_Atom.v a0.2.2.1; (!t3)) else false)) else false)) else false) else false) else false)) else false)))
theorem impl_GoodValue.v_ev (a0 : T26) (f_a0 : fitSh S26 a0) : EvF .bool (fun K _ => impl_GoodValue.f K a0) (impl_GoodValue.v a0) := by
  unfold impl_GoodValue.v
  exact EvF.fn (fun k => impl_GoodValue.f_eq k a0) (EvF.ite (fun h0 => (EvF.bind (impl_GoodAtom.v_ev _ (f_a0.2.1)) fun f_t0 => (EvF.ite (fun h1 => (EvF.ite (fun h2 => (EvF.now (fit_bool _))) fun h2 => (EvF.now (fit_bool _)))) fun h1 => (EvF.now (fit_bool _))))) fun h0 => (EvF.ite (fun h1 => (EvF.bind (impl_yzeroAtom.v_ev _ (f_a0.2.1)) fun f_t0 => (EvF.ite (fun h2 => (EvF.ite (fun h3 => (EvF.ite (fun h4 => (EvF.bind (impl_yrisingAtoms.v_ev _ (f_a0.2.2.1)) fun f_t1 => (EvF.now (fit_bool _)))) fun h4 => (EvF.now (fit_bool _)))) fun h3 => (EvF.now (fit_bool _)))) fun h2 => (EvF.now (fit_bool _))))) fun h1 => (EvF.ite (fun h2 => (EvF.bind (impl_yzeroAtom.v_ev _ (f_a0.2.1)) fun f_t0 => (EvF.ite (fun h3 => (EvF.ite (fun h4 => (EvF.ite (fun h5 => (EvF.bind (impl_yallNames.v_ev _ (f_a0.2.2.2.1)) fun f_t1 => (EvF.ite (fun h6 => (EvF.bind (impl_yrising.v_ev _ (f_a0.2.2.2.1)) fun f_t2 => (EvF.ite (fun h7 => (EvF.bind (slices_ContainsFunc_impl_Atom_impl_Atom.v_ev _ (f_a0.2.2.1)) fun f_t3 => (EvF.now (fit_bool _)))) fun h7 => (EvF.now (fit_bool _))))) fun h6 => (EvF.now (fit_bool _))))) fun h5 => (EvF.now (fit_bool _)))) fun h4 => (EvF.now (fit_bool _)))) fun h3 => (EvF.now (fit_bool _))))) fun h2 => (EvF.now (fit_bool _)))))

theorem allNames (l : List ByteArray) : impl_yallNames.v l = l.all goodName := by
  have h : ∀ (rest : List ByteArray) (i : Nat), decide (slices_IndexFunc_string_string.l6.v rest i ≥ 0) = !(rest.all goodName) := by
    intro rest
    induction rest with
    | nil => intro i; unfold slices_IndexFunc_string_string.l6.v; rfl
    | cons e rest ih =>
      intro i
      unfold slices_IndexFunc_string_string.l6.v impl_yallNames_1.v
      rw [List.all_cons]
      dsimp only [impl_GoodName.v]
      by_cases g : goodName e = true
      · simpa [g] using ih (i + 1)
      · simp [g]
  unfold impl_yallNames.v slices_ContainsFunc_string_string.v slices_IndexFunc_string_string.v
  dsimp only
  rw [h l 0, Bool.not_not]
theorem noBadAtom (l : List T22) : (!(slices_ContainsFunc_impl_Atom_impl_Atom.v l)) = l.all goodAtom := by
  have h : ∀ (rest : List T22) (i : Nat), decide (slices_IndexFunc_impl_Atom_impl_Atom.l6.v rest i ≥ 0) = !(rest.all goodAtom) := by
    intro rest
    induction rest with
    | nil => intro i; unfold slices_IndexFunc_impl_Atom_impl_Atom.l6.v; rfl
    | cons e rest ih =>
      intro i
      unfold slices_IndexFunc_impl_Atom_impl_Atom.l6.v impl_GoodValue_1.v
      rw [List.all_cons]
      dsimp only [impl_GoodAtom.v]
      by_cases g : goodAtom e = true
      · simpa [g] using ih (i + 1)
      · simp [g]
  unfold slices_ContainsFunc_impl_Atom_impl_Atom.v slices_IndexFunc_impl_Atom_impl_Atom.v
  dsimp only
  rw [h l 0, Bool.not_not]
theorem l70_both (x : List ByteArray) : ∀ (rest : List ByteArray) (i : Nat), spec_GoodValue.l70.v x rest i = (rest.all goodName && impl_yrising.l6.v x rest i)
  | [], i => by unfold spec_GoodValue.l70.v impl_yrising.l6.v; rfl
  | e :: rest, i => by
    unfold spec_GoodValue.l70.v impl_yrising.l6.v
    rw [l70_both x rest, List.all_cons]
    dsimp only [spec_GoodName.v, spec_l1CmpText.v]
    cases goodName e with
    | false => simp
    | true =>
      simp only [if_true, Bool.true_and]
      by_cases hi : (i : Int) > 0
      · rw [if_pos hi, if_pos hi]
        by_cases c : cmpT (rd (⟨#[]⟩ : ByteArray) x (wrap64 ((i : Int) - 1))) e ≥ 0
        · rw [if_pos c, if_neg (fun q => by have := (less_cmp _ _).1 q; omega)]; simp
        · rw [if_neg c, if_pos ((less_cmp _ _).2 (by omega))]
      · rw [if_neg hi, if_neg hi]
theorem l31_set (x : List T22) (n : List ByteArray) : ∀ (rest : List T22) (i : Nat), spec_GoodValue.l31.v x 2 n rest i = (impl_yrisingAtoms.l6.v x rest i && decide ((n.length : Int) = 0))
  | [], i => by unfold spec_GoodValue.l31.v impl_yrisingAtoms.l6.v; rfl
  | e :: rest, i => by
    unfold spec_GoodValue.l31.v impl_yrisingAtoms.l6.v
    rw [l31_set x n rest]
    dsimp only [spec_GoodAtom.v, impl_GoodAtom.v]
    cases goodAtom e with
    | false => simp
    | true =>
      simp only [if_true]
      by_cases hi : (i : Int) > 0
      · rw [if_pos hi, if_pos hi, cmpAtom_same]
        split <;> rfl
      · rw [if_neg hi, if_neg hi]
theorem l31_record (x : List T22) (n : List ByteArray) : ∀ (rest : List T22) (i : Nat), spec_GoodValue.l31.v x 3 n rest i = (rest.all goodAtom && (if (n.length : Int) = (x.length : Int) then spec_GoodValue.l70.v n n 0 else false))
  | [], i => by unfold spec_GoodValue.l31.v; simp
  | e :: rest, i => by
    unfold spec_GoodValue.l31.v
    rw [l31_record x n rest, List.all_cons]
    dsimp only [spec_GoodAtom.v]
    cases goodAtom e <;> simp
theorem value_same (v : T26) : impl_GoodValue.v v = spec_GoodValue.v v := by
  obtain ⟨k, a, l, n, ⟨⟩⟩ := v
  unfold impl_GoodValue.v spec_GoodValue.v
  dsimp only [impl_GoodAtom.v, spec_GoodAtom.v, impl_yzeroAtom.v]
  by_cases h1 : k = 1
  · rw [if_pos h1, if_pos h1]
  · rw [if_neg h1, if_neg h1]
    by_cases h2 : k = 2
    · subst h2
      rw [if_pos rfl, if_pos rfl, if_pos rfl, l31_set]
      unfold impl_yrisingAtoms.v
      by_cases hz : eqD S22 a ((0, (0, ((⟨#[]⟩ : ByteArray), ((⟨#[]⟩ : ByteArray), ())))) : T22) = true
      · rw [if_pos hz, if_pos hz]
        by_cases h : (l.length : Int) > 50
        · rw [if_pos h, if_neg (by omega)]
        · rw [if_neg h, if_pos (by omega)]
          by_cases g : (n.length : Int) = 0
          · rw [if_pos g, decide_eq_true g, Bool.and_true]
          · rw [if_neg g, decide_eq_false g, Bool.and_false]
      · rw [if_neg hz, if_neg hz]
    · rw [if_neg h2, if_neg h2]
      by_cases h3 : k = 3
      · subst h3
        rw [if_pos rfl, if_pos rfl, l31_record, l70_both, noBadAtom, allNames]
        unfold impl_yrising.v
        by_cases hz : eqD S22 a ((0, (0, ((⟨#[]⟩ : ByteArray), ((⟨#[]⟩ : ByteArray), ())))) : T22) = true
        · rw [if_pos hz, if_pos hz]
          by_cases g : (l.length : Int) = (n.length : Int)
          · rw [if_pos g, if_pos g.symm]
            by_cases h : (l.length : Int) > 50
            · rw [if_pos h, if_neg (by omega)]
            · rw [if_neg h, if_pos (by omega)]
              cases n.all goodName <;> cases impl_yrising.l6.v n n 0 <;> cases l.all goodAtom <;> rfl
          · rw [if_neg (show ¬ ((n.length : Int) = (l.length : Int)) from fun q => g q.symm), Bool.and_false]
            simp [g]
        · rw [if_neg hz, if_neg hz]
      · rw [if_neg h3, if_neg h3]
/-- a record has as many names as items -/
theorem record_len {v : T26} (h3 : v.1 = 3) (h : spec_GoodValue.v v = true) : v.2.2.2.1.length ≤ v.2.2.1.length := by
  rw [← value_same] at h
  unfold impl_GoodValue.v at h
  rw [if_neg (by omega), if_neg (by omega), if_pos h3] at h
  dsimp only at h
  split at h
  · split at h
    · split at h
      · omega
      · cases h
    · cases h
  · cases h

/-! ### a value's text -/
theorem textL_len {a : AtT} (hn : -9223372036854775808 ≤ a.2.1) (hn' : a.2.1 ≤ 9223372036854775807) (g : goodAtom a = true) : (textL a).length ≤ 434 := by
  obtain ⟨ht, hy⟩ := good_text g
  have hq := quoteL_len a.2.2.1
  have hi := itoa_len a.2.1 hn hn'
  unfold textL
  split
  · split <;> decide
  split
  · omega
  split
  · omega
  split
  · have e : a.2.2.2.1.data.toList.length = a.2.2.2.1.size := by simp
    rw [List.length_append, List.length_append, e]
    show _ + 2 + _ ≤ _
    omega
  split
  · unfold decT
    have := decU_len a.2.1.natAbs (by omega)
    split
    · rw [List.length_cons]; omega
    · omega
  split
  · rename_i h6
    obtain ⟨F, b, hF, hb, e1, e2, h0⟩ := addr_parts h6 g
    unfold addrT addrF
    rw [e1, e2, Int.toNat_natCast, Int.toNat_natCast]
    have l1 := dec_small (F / 16777216) (by omega)
    have l2 := dec_small (F / 65536 % 256) (by omega)
    have l3 := dec_small (F / 256 % 256) (by omega)
    have l4 := dec_small (F % 256) (by omega)
    have l5 := dec_small b (by omega)
    simp only [List.length_append, List.length_cons, List.length_nil]
    omega
  · rw [List.length_cons]; omega
theorem rising_good (x : List T22) : ∀ (rest : List T22) (i : Nat), impl_yrisingAtoms.l6.v x rest i = true → rest.all goodAtom = true
  | [], i, h => rfl
  | e :: rest, i, h => by
    unfold impl_yrisingAtoms.l6.v at h
    dsimp only [impl_GoodAtom.v] at h
    rw [List.all_cons]
    cases g : goodAtom e with
    | false => rw [g] at h; simp at h
    | true =>
      rw [g] at h
      simp only [if_true] at h
      rw [Bool.true_and]
      split at h
      · split at h
        · cases h
        · exact rising_good x rest _ h
      · exact rising_good x rest _ h
theorem value_facts {v : T26} (h : spec_GoodValue.v v = true) :
    (v.1 = 1 ∧ goodAtom v.2.1 = true ∧ v.2.2.1.length = 0 ∧ v.2.2.2.1.length = 0) ∨
    (v.1 = 2 ∧ impl_yzeroAtom.v v.2.1 = true ∧ v.2.2.1.length ≤ 50 ∧ v.2.2.2.1.length = 0 ∧ v.2.2.1.all goodAtom = true) ∨
    (v.1 = 3 ∧ impl_yzeroAtom.v v.2.1 = true ∧ v.2.2.1.length ≤ 50 ∧ v.2.2.1.length = v.2.2.2.1.length ∧ v.2.2.2.1.all goodName = true ∧ v.2.2.1.all goodAtom = true) := by
  rw [← value_same] at h
  unfold impl_GoodValue.v at h
  dsimp only [impl_GoodAtom.v] at h
  split at h
  · rename_i h1
    left
    split at h
    · rename_i hg
      split at h
      · rename_i hi
        exact ⟨h1, hg, by omega, by have := of_decide_eq_true h; omega⟩
      · cases h
    · cases h
  split at h
  · rename_i h2
    right; left
    split at h
    · rename_i hz
      split at h
      · rename_i hi
        split at h
        · rename_i hn
          exact ⟨h2, hz, by omega, by omega, rising_good _ _ _ h⟩
        · cases h
      · cases h
    · cases h
  split at h
  · rename_i h3
    right; right
    split at h
    · rename_i hz
      split at h
      · rename_i hn
        split at h
        · rename_i hl
          split at h
          · rename_i hnm
            split at h
            · rw [allNames] at hnm
              rw [noBadAtom] at h
              exact ⟨h3, hz, by omega, by omega, hnm, h⟩
            · cases h
          · cases h
        · cases h
      · cases h
    · cases h
  · cases h
def pt (k : Int) (it : List T22) (na : List ByteArray) (i : Nat) : List UInt8 :=
  if k = 3 then (rd (⟨#[]⟩ : ByteArray) na (i : Int)).data.toList ++ [58] ++ textL (rd Z22 it (i : Int)) else textL (rd Z22 it (i : Int))
def pts (k : Int) (it : List T22) (na : List ByteArray) (n : Nat) : List (List UInt8) := (List.range n).map (pt k it na)
theorem pts_succ (k : Int) (it : List T22) (na : List ByteArray) (n : Nat) : pts k it na (n + 1) = pts k it na n ++ [pt k it na n] := by simp [pts, List.range_succ]
theorem pts_len (k : Int) (it : List T22) (na : List ByteArray) (n : Nat) : (pts k it na n).length = n := by simp [pts]
theorem join_snoc (l : List (List UInt8)) (y sep : List UInt8) (h : l ≠ []) : Lib.join (l ++ [y]) sep = Lib.join l sep ++ (sep ++ y) := by
  cases l with
  | nil => exact absurd rfl h
  | cons x r =>
    rw [List.cons_append, Lib.join_cons, Lib.join_cons]
    simp [Lib.joinTail]
def jn (k : Int) (it : List T22) (na : List ByteArray) (n : Nat) : List UInt8 := Lib.join (pts k it na n) [44]
theorem jn_zero (k : Int) (it : List T22) (na : List ByteArray) : jn k it na 0 = [] := rfl
theorem jn_one (k : Int) (it : List T22) (na : List ByteArray) : jn k it na 1 = pt k it na 0 := by
  unfold jn
  rw [show pts k it na 1 = [pt k it na 0] from rfl, Lib.join_one]
theorem jn_succ (k : Int) (it : List T22) (na : List ByteArray) (n : Nat) (h : 0 < n) : jn k it na (n + 1) = jn k it na n ++ ([44] ++ pt k it na n) := by
  unfold jn
  rw [pts_succ, join_snoc _ _ _ (fun e => by have := pts_len k it na n; rw [e] at this; simp at this; omega)]
structure ItOk (k : Int) (it : List T22) (na : List ByteArray) : Prop where
  len : it.length ≤ 50
  good : ∀ i : Nat, i < it.length → goodAtom (rd Z22 it (i : Int)) = true ∧ -9223372036854775808 ≤ (rd Z22 it (i : Int)).2.1 ∧ (rd Z22 it (i : Int)).2.1 ≤ 9223372036854775807
  names : k = 3 → it.length = na.length ∧ ∀ i : Nat, i < it.length → (rd (⟨#[]⟩ : ByteArray) na (i : Int)).size ≤ 30
theorem pt_len {k : Int} {it : List T22} {na : List ByteArray} (h : ItOk k it na) (i : Nat) (hi : i < it.length) : (pt k it na i).length ≤ 465 := by
  obtain ⟨g, r1, r2⟩ := h.good i hi
  have := textL_len r1 r2 g
  unfold pt
  split
  · rename_i h3
    have hn := (h.names h3).2 i hi
    have e : (rd (⟨#[]⟩ : ByteArray) na (i : Int)).data.toList.length = (rd (⟨#[]⟩ : ByteArray) na (i : Int)).size := by simp
    rw [List.length_append, List.length_append, e]
    show _ + 1 + _ ≤ _
    omega
  · omega
theorem jn_len {k : Int} {it : List T22} {na : List ByteArray} (h : ItOk k it na) : ∀ n, n ≤ it.length → (jn k it na n).length ≤ 466 * n
  | 0, _ => by rw [jn_zero]; simp
  | n + 1, hn => by
    have hp := pt_len h n (by omega)
    by_cases h0 : n = 0
    · subst h0; rw [jn_one]; omega
    · rw [jn_succ _ _ _ _ (by omega), List.length_append, List.length_append]
      have := jn_len h n (by omega)
      show _ + (1 + _) ≤ _
      omega
def wrapL (k : Int) (l : List UInt8) : List UInt8 := if k = 3 then [123] ++ l ++ [125] else [91] ++ l ++ [93]
theorem spec_l24_ev {k : Int} {it : List T22} {na : List ByteArray} (h : ItOk k it na) (y1 y2 : Int) (y3 y4 : ByteArray) : ∀ (d i : Nat), it.length = i + d →
    Ev (fun K j => spec_ValueText.l24 K j ⟨(jn k it na i).toArray⟩ it (it.length : Int) (i : Int) k y1 y2 y3 y4 it na) ⟨(wrapL k (jn k it na it.length)).toArray⟩ := by
  intro d
  have hlen := h.len
  have lm : ∀ n : Nat, n ≤ 100000 → n ≤ lim := fun n h => by show _ ≤ 4611686018427387904; omega
  have eb : ∀ (l : List UInt8), (ByteArray.mk l.toArray).size = l.length := bsz
  have c44 : (⟨#[44]⟩ : ByteArray) = ⟨[(44 : UInt8)].toArray⟩ := rfl
  have c58 : (⟨#[58]⟩ : ByteArray) = ⟨[(58 : UInt8)].toArray⟩ := rfl
  induction d with
  | zero =>
    intro i hi
    obtain rfl : i = it.length := by omega
    have hj := jn_len h it.length (Nat.le_refl _)
    refine Ev.lp (fun K j => spec_ValueText.l24_eq K j _ _ _ _ _ _ _ _ _ _ _) (Ev.no (by omega) ?_)
    rw [show (⟨#[123]⟩ : ByteArray) = ⟨[(123 : UInt8)].toArray⟩ from rfl, show (⟨#[125]⟩ : ByteArray) = ⟨[(125 : UInt8)].toArray⟩ from rfl, show (⟨#[91]⟩ : ByteArray) = ⟨[(91 : UInt8)].toArray⟩ from rfl, show (⟨#[93]⟩ : ByteArray) = ⟨[(93 : UInt8)].toArray⟩ from rfl]
    simp only [appS_mk, eb]
    unfold wrapL
    refine Ev.ite (fun h3 => Ev.yes (lm _ (by show 1 + _ ≤ _; omega)) (Ev.yes (lm _ (by rw [List.length_append]; show 1 + _ + 1 ≤ _; omega)) (Ev.some (by rw [if_pos h3])))) fun h3 => Ev.yes (lm _ (by show 1 + _ ≤ _; omega)) (Ev.yes (lm _ (by rw [List.length_append]; show 1 + _ + 1 ≤ _; omega)) (Ev.some (by rw [if_neg h3])))
  | succ d ih =>
    intro i hi
    have hlt : i < it.length := by omega
    have hj := jn_len h i (by omega)
    obtain ⟨g, r1, r2⟩ := h.good i hlt
    have ht := textL_len r1 r2 g
    have hT := spec_text_ev _ r1 r2 g
    have z := ih (i + 1) (by omega)
    refine Ev.lp (fun K j => spec_ValueText.l24_eq K j _ _ _ _ _ _ _ _ _ _ _) (Ev.yes (by omega) (Ev.yes (by omega) ?_))
    rw [wrap_nat (by omega)]
    have en : (rd (⟨#[]⟩ : ByteArray) na (i : Int)).data.toList.length = (rd (⟨#[]⟩ : ByteArray) na (i : Int)).size := by simp
    by_cases h3 : k = 3
    · obtain ⟨hn1, hn2⟩ := h.names h3
      have hn := hn2 i hlt
      have ep : pt k it na i = (rd (⟨#[]⟩ : ByteArray) na (i : Int)).data.toList ++ [58] ++ textL (rd Z22 it (i : Int)) := by unfold pt; rw [if_pos h3]
      have e58 : appS (rd (⟨#[]⟩ : ByteArray) na (i : Int)) (⟨#[58]⟩ : ByteArray) = ⟨((rd (⟨#[]⟩ : ByteArray) na (i : Int)).data.toList ++ [58]).toArray⟩ := by rw [c58, appS_mk']
      refine Ev.ite (fun h0 => ?_) fun h0 => ?_
      · rw [c44, e58]
        simp only [appS_mk]
        refine Ev.yes (lm _ (by rw [eb]; show _ + 1 ≤ _; omega)) (Ev.yes h3 (Ev.yes (by omega) (Ev.yes (lm _ (by show _ + 1 ≤ _; omega)) (Ev.yes (lm _ (by rw [eb, eb, List.length_append, List.length_append, en]; show _ + 1 + (_ + 1) ≤ _; omega)) (hT.bind (Ev.yes (lm _ (by rw [eb, eb, List.length_append, List.length_append, List.length_append, en]; show _ + 1 + (_ + 1) + _ ≤ _; omega)) ?_))))))
        rw [jn_succ _ _ _ _ (by omega), ep] at z
        simpa [appS_mk] using z
      · obtain rfl : i = 0 := by omega
        rw [e58]
        simp only [appS_mk]
        refine Ev.yes h3 (Ev.yes (by omega) (Ev.yes (lm _ (by show _ + 1 ≤ _; omega)) (Ev.yes (lm _ (by rw [eb, eb, List.length_append, en]; show _ + (_ + 1) ≤ _; omega)) (hT.bind (Ev.yes (lm _ (by rw [eb, eb, List.length_append, List.length_append, en]; show _ + (_ + 1) + _ ≤ _; omega)) ?_)))))
        rw [jn_one, ep] at z
        rw [jn_zero]
        simpa [appS_mk] using z
    · have ep : pt k it na i = textL (rd Z22 it (i : Int)) := by unfold pt; rw [if_neg h3]
      refine Ev.ite (fun h0 => ?_) fun h0 => ?_
      · rw [c44]
        simp only [appS_mk]
        refine Ev.yes (lm _ (by rw [eb]; show _ + 1 ≤ _; omega)) (Ev.no h3 (hT.bind (Ev.yes (lm _ (by rw [eb, eb, List.length_append]; show _ + 1 + _ ≤ _; omega)) ?_)))
        rw [jn_succ _ _ _ _ (by omega), ep] at z
        simpa [appS_mk] using z
      · obtain rfl : i = 0 := by omega
        refine Ev.no h3 (hT.bind (Ev.yes (lm _ (by rw [eb, eb]; omega)) ?_))
        rw [jn_one, ep] at z
        rw [jn_zero, appS_mk]
        simpa using z
def bmk (l : List UInt8) : ByteArray := ⟨l.toArray⟩
theorem joinS_bmk (l : List (List UInt8)) : joinS (l.map bmk) (⟨#[44]⟩ : ByteArray) = ⟨(Lib.join l [44]).toArray⟩ := by
  unfold joinS
  rw [List.map_map]
  congr 2
  have : l.map ((fun x : ByteArray => x.data.toList) ∘ bmk) = l := by
    have : ((fun x : ByteArray => x.data.toList) ∘ bmk) = id := by funext x; simp [bmk]
    rw [this, List.map_id]
  rw [this]
theorem impl_l16_ev {k : Int} {it : List T22} {na : List ByteArray} (h : ItOk k it na) (hk : k = 2 ∨ k = 3) (fi : fitSh (.list S22) it) (y1 y2 : Int) (y3 y4 : ByteArray) : ∀ (d i : Nat), it.length = i + d →
    Ev (fun K j => impl_ValueText.l16 K j it (it.length : Int) (i : Int) k y1 y2 y3 y4 it na ((pts k it na i).map bmk)) ⟨(wrapL k (jn k it na it.length)).toArray⟩ := by
  intro d
  have hlen := h.len
  have lm : ∀ n : Nat, n ≤ 100000 → n ≤ lim := fun n h => by show _ ≤ 4611686018427387904; omega
  have eb : ∀ (l : List UInt8), (ByteArray.mk l.toArray).size = l.length := bsz
  have c58 : (⟨#[58]⟩ : ByteArray) = ⟨[(58 : UInt8)].toArray⟩ := rfl
  induction d with
  | zero =>
    intro i hi
    obtain rfl : i = it.length := by omega
    have hj := jn_len h it.length (Nat.le_refl _)
    have hJ : Ev (fun K _ => strings_Join.f K ((pts k it na it.length).map bmk) (⟨#[44]⟩ : ByteArray)) ⟨(jn k it na it.length).toArray⟩ := by
      refine Ev.fn (fun k => strings_Join.f_eq k _ _) (Ev.yes ⟨by rw [List.length_map, pts_len]; omega, ?_⟩ (Ev.some (joinS_bmk _)))
      rw [joinS_bmk, eb]
      show (jn k it na it.length).length ≤ _
      omega
    refine Ev.lp (fun K j => impl_ValueText.l16_eq K j _ _ _ _ _ _ _ _ _ _ _) (Ev.no (by omega) ?_)
    rw [show (⟨#[123]⟩ : ByteArray) = ⟨[(123 : UInt8)].toArray⟩ from rfl, show (⟨#[125]⟩ : ByteArray) = ⟨[(125 : UInt8)].toArray⟩ from rfl, show (⟨#[91]⟩ : ByteArray) = ⟨[(91 : UInt8)].toArray⟩ from rfl, show (⟨#[93]⟩ : ByteArray) = ⟨[(93 : UInt8)].toArray⟩ from rfl]
    unfold wrapL
    rcases hk with h2 | h3
    · refine Ev.yes h2 (hJ.bind ?_)
      simp only [appS_mk, eb]
      exact Ev.yes (lm _ (by show 1 + _ ≤ _; omega)) (Ev.yes (lm _ (by rw [List.length_append]; show 1 + _ + 1 ≤ _; omega)) (Ev.some (by rw [if_neg (by omega)])))
    · refine Ev.no (by omega) (Ev.yes h3 (hJ.bind ?_))
      simp only [appS_mk, eb]
      exact Ev.yes (lm _ (by show 1 + _ ≤ _; omega)) (Ev.yes (lm _ (by rw [List.length_append]; show 1 + _ + 1 ≤ _; omega)) (Ev.some (by rw [if_pos h3])))
  | succ d ih =>
    intro i hi
    have hlt : i < it.length := by omega
    obtain ⟨g, r1, r2⟩ := h.good i hlt
    have ht := textL_len r1 r2 g
    have fa := fit_rd (t := S22) fi (i : Int)
    have hT : Ev (fun K _ => impl_AtomText.f K (rd Z22 it (i : Int))) ⟨(textL (rd Z22 it (i : Int))).toArray⟩ := by
      have := impl_AtomText_ev (rd Z22 it (i : Int)) r1 r2 fa.2.2.1 fa.2.2.2.1
      unfold atomT at this
      rw [if_pos g] at this
      exact this
    have z := ih (i + 1) (by omega)
    rw [pts_succ, List.map_append] at z
    refine Ev.lp (fun K j => impl_ValueText.l16_eq K j _ _ _ _ _ _ _ _ _ _ _) (Ev.yes (by omega) (Ev.yes (by omega) (hT.bind ?_)))
    rw [wrap_nat (by omega)]
    have en : (rd (⟨#[]⟩ : ByteArray) na (i : Int)).data.toList.length = (rd (⟨#[]⟩ : ByteArray) na (i : Int)).size := by simp
    have hm : ((pts k it na i).map bmk).length + 1 ≤ most 16 := by rw [List.length_map, pts_len]; show _ ≤ 2069668946401; omega
    refine Ev.ite (fun h3 => ?_) fun h3 => ?_
    · obtain ⟨hn1, hn2⟩ := h.names h3
      have hn := hn2 i hlt
      have ep : pt k it na i = (rd (⟨#[]⟩ : ByteArray) na (i : Int)).data.toList ++ [58] ++ textL (rd Z22 it (i : Int)) := by unfold pt; rw [if_pos h3]
      have e58 : appS (rd (⟨#[]⟩ : ByteArray) na (i : Int)) (⟨#[58]⟩ : ByteArray) = ⟨((rd (⟨#[]⟩ : ByteArray) na (i : Int)).data.toList ++ [58]).toArray⟩ := by rw [c58, appS_mk']
      rw [e58]
      simp only [appS_mk]
      refine Ev.yes (by omega) (Ev.yes (lm _ (by show _ + 1 ≤ _; omega)) (Ev.yes (lm _ (by rw [eb, eb, List.length_append, en]; show _ + 1 + _ ≤ _; omega)) (Ev.yes hm ?_)))
      rw [ep] at z
      exact z
    · have ep : pt k it na i = textL (rd Z22 it (i : Int)) := by unfold pt; rw [if_neg h3]
      refine Ev.yes hm ?_
      rw [ep] at z
      exact z
def valueL (v : T26) : List UInt8 := if v.1 = 1 then textL v.2.1 else wrapL v.1 (jn v.1 v.2.2.1 v.2.2.2.1 v.2.2.1.length)
def valueT (v : T26) : ByteArray := if spec_GoodValue.v v = true then ⟨(valueL v).toArray⟩ else ⟨#[]⟩
theorem rd_mem {α : Type} (z : α) (l : List α) (i : Nat) (h : i < l.length) : rd z l (i : Int) ∈ l := by rw [rd_at z l i h]; exact List.getElem_mem h
theorem value_ok {v : T26} (f : fitSh S26 v) (h : spec_GoodValue.v v = true) : (v.1 = 1 ∧ goodAtom v.2.1 = true ∧ v.2.2.1.length = 0) ∨ ((v.1 = 2 ∨ v.1 = 3) ∧ ItOk v.1 v.2.2.1 v.2.2.2.1) := by
  rcases value_facts h with ⟨h1, h2, h3, _⟩ | ⟨h1, _, h2, h3, h4⟩ | ⟨h1, _, h2, h3, h4, h5⟩
  · exact .inl ⟨h1, h2, h3⟩
  · refine .inr ⟨.inl h1, h2, fun i hi => ?_, fun h => by omega⟩
    have hw := i64_of (fit_rd (t := S22) f.2.2.1 (i : Int)).2.1
    exact ⟨List.all_eq_true.1 h4 _ (rd_mem _ _ i hi), hw.1, hw.2⟩
  · refine .inr ⟨.inr h1, h2, fun i hi => ?_, fun h => ⟨h3, fun i hi => ?_⟩⟩
    · have hw := i64_of (fit_rd (t := S22) f.2.2.1 (i : Int)).2.1
      exact ⟨List.all_eq_true.1 h5 _ (rd_mem _ _ i hi), hw.1, hw.2⟩
    · have hg := List.all_eq_true.1 h4 _ (rd_mem (⟨#[]⟩ : ByteArray) _ i (by omega))
      unfold goodName at hg
      rw [Bool.and_eq_true, Bool.and_eq_true] at hg
      have := of_decide_eq_true hg.1.1
      omega
theorem spec_ValueText_ev (v : T26) (f : fitSh S26 v) : Ev (fun K _ => spec_ValueText.f K v) (valueT v) := by
  refine Ev.fn (fun k => spec_ValueText.f_eq k v) ((spec_GoodValue.v_ev v f).1.bind ?_)
  unfold valueT
  refine Ev.ite (fun g => ?_) fun g => by rw [if_neg g]; exact Ev.now _
  rw [if_pos g]
  unfold valueL
  have hw := i64_of f.2.1.2.1
  rcases value_ok f g with ⟨h1, h2, h3⟩ | ⟨hk, hI⟩
  · rw [if_pos h1]
    exact Ev.yes h1 (Ev.tail (spec_text_ev v.2.1 hw.1 hw.2 h2))
  · rw [if_neg (by omega)]
    refine Ev.no (by omega) ?_
    have z := spec_l24_ev hI v.2.1.1 v.2.1.2.1 v.2.1.2.2.1 v.2.1.2.2.2.1 v.2.2.1.length 0 (by omega)
    exact Ev.diag (L := fun K j => spec_ValueText.l24 K j ⟨#[]⟩ v.2.2.1 (v.2.2.1.length : Int) 0 v.1 v.2.1.1 v.2.1.2.1 v.2.1.2.2.1 v.2.1.2.2.2.1 v.2.2.1 v.2.2.2.1) z
theorem impl_ValueText_ev (v : T26) (f : fitSh S26 v) : Ev (fun K _ => impl_ValueText.f K v) (valueT v) := by
  have hv := (impl_GoodValue.v_ev v f).1
  rw [value_same] at hv
  refine Ev.fn (fun k => impl_ValueText.f_eq k v) (hv.bind ?_)
  unfold valueT
  refine Ev.ite (fun g => ?_) fun g => by rw [if_neg g]; exact Ev.now _
  rw [if_pos g]
  unfold valueL
  have hw := i64_of f.2.1.2.1
  rcases value_ok f g with ⟨h1, h2, h3⟩ | ⟨hk, hI⟩
  · rw [if_pos h1]
    refine Ev.diag (L := fun K j => impl_ValueText.l16 K j v.2.2.1 (v.2.2.1.length : Int) 0 v.1 v.2.1.1 v.2.1.2.1 v.2.1.2.2.1 v.2.1.2.2.2.1 v.2.2.1 v.2.2.2.1 []) ?_
    refine Ev.lp (fun K j => impl_ValueText.l16_eq K j _ _ _ _ _ _ _ _ _ _ _) (Ev.no (by omega) (Ev.no (by omega) (Ev.no (by omega) (Ev.tail ?_))))
    have := impl_AtomText_ev v.2.1 hw.1 hw.2 f.2.1.2.2.1 f.2.1.2.2.2.1
    unfold atomT at this
    rw [if_pos h2] at this
    exact this
  · rw [if_neg (by omega)]
    have z := impl_l16_ev hI hk f.2.2.1 v.2.1.1 v.2.1.2.1 v.2.1.2.2.1 v.2.1.2.2.2.1 v.2.2.1.length 0 (by omega)
    exact Ev.diag (L := fun K j => impl_ValueText.l16 K j v.2.2.1 (v.2.2.1.length : Int) 0 v.1 v.2.1.1 v.2.1.2.1 v.2.1.2.2.1 v.2.1.2.2.2.1 v.2.2.1 v.2.2.2.1 []) z

def spec_l1Letter.v (a0 : Int) : Bool :=
  (if (a0 : Int) ≥ 97 then (if (a0 : Int) ≤ 122 then true else (if (a0 : Int) ≥ 65 then (decide ((a0 : Int) ≤ 90)) else false)) else (if (a0 : Int) ≥ 65 then (decide ((a0 : Int) ≤ 90)) else false))
theorem spec_l1Letter.v_ev (a0 : Int) (f_a0 : fitSh (.int .u8) a0) : EvF .bool (fun K _ => spec_l1Letter.f K a0) (spec_l1Letter.v a0) := by
  unfold spec_l1Letter.v
  exact EvF.fn (fun k => spec_l1Letter.f_eq k a0) (EvF.ite (fun h0 => (EvF.ite (fun h1 => (EvF.now (fit_bool _))) fun h1 => (EvF.ite (fun h2 => (EvF.now (fit_bool _))) fun h2 => (EvF.now (fit_bool _))))) fun h0 => (EvF.ite (fun h1 => (EvF.now (fit_bool _))) fun h1 => (EvF.now (fit_bool _))))
def spec_l1Digit.v (a0 : Int) : Bool :=
  (if (a0 : Int) ≥ 48 then (decide ((a0 : Int) ≤ 57)) else false)
theorem spec_l1Digit.v_ev (a0 : Int) (f_a0 : fitSh (.int .u8) a0) : EvF .bool (fun K _ => spec_l1Digit.f K a0) (spec_l1Digit.v a0) := by
  unfold spec_l1Digit.v
  exact EvF.fn (fun k => spec_l1Digit.f_eq k a0) (EvF.ite (fun h0 => (EvF.now (fit_bool _))) fun h0 => (EvF.now (fit_bool _)))
def spec_l7Id.l6.v (x0 : ByteArray)  : List Int → Nat → Bool
  | [], i => (if ((x0.size : Int) : Int) ≥ 1 then (decide (((x0.size : Int) : Int) ≤ 40)) else false)
  | e :: rest, i => (let t0 := spec_l1Letter.v e; (if t0 = true then (spec_l7Id.l6.v x0 rest (i + 1)) else (let t1 := spec_l1Digit.v e; (if t1 = true then (spec_l7Id.l6.v x0 rest (i + 1)) else (if (e : Int) = 95 then (spec_l7Id.l6.v x0 rest (i + 1)) else (if (e : Int) = 45 then (spec_l7Id.l6.v x0 rest (i + 1)) else (if (e : Int) = 46 then (spec_l7Id.l6.v x0 rest (i + 1)) else false)))))))
theorem spec_l7Id.l6.v_ev (x0 : ByteArray) (f_x0 : fitSh .str x0)  : ∀ (rest : List Int) (i : Nat)  , (bytesOf x0).drop i = rest → EvF .bool (fun K j => spec_l7Id.l6 K j x0 (i : Int)) (spec_l7Id.l6.v x0 rest i ) := by
  have bX : x0.size ≤ 140737488351232 := f_x0
  intro rest
  induction rest with
  | nil =>
    intro i hd
    have hz := bdrop_none hd
    unfold spec_l7Id.l6.v
    exact EvF.lp (fun K j => spec_l7Id.l6_eq K j x0 (i : Int)) (EvF.no (by omega) (EvF.ite (fun h0 => (EvF.now (fit_bool _))) fun h0 => (EvF.now (fit_bool _))))
  | cons e rest ih =>
    intro i hd
    obtain ⟨hlt, hd2, hx⟩ := bdrop_more hd
    have f_e : fitSh (.int .u8) e := hx ▸ fit_bt x0 _
    have b_e := bt_range x0 i
    rw [hx] at b_e
    have f_i : fitSh (.int .i64) (i : Int) := fit_len (by omega)
    unfold spec_l7Id.l6.v
    refine EvF.lp (fun K j => spec_l7Id.l6_eq K j x0 (i : Int)) (EvF.yes (by omega) ?_)
    try rw [hx]
    try rw [wrap_nat (i := i) (by omega)]
    exact (EvF.yes (by first | omega | (simp only [wrap64] at *; omega)) (EvF.bind (spec_l1Letter.v_ev _ (f_e)) fun f_t0 => (EvF.ite (fun h0 => (ih (i + 1)   hd2)) fun h0 => (EvF.yes (by first | omega | (simp only [wrap64] at *; omega)) (EvF.bind (spec_l1Digit.v_ev _ (f_e)) fun f_t1 => (EvF.ite (fun h1 => (ih (i + 1)   hd2)) fun h1 => (EvF.yes (by first | omega | (simp only [wrap64] at *; omega)) (EvF.ite (fun h2 => (ih (i + 1)   hd2)) fun h2 => (EvF.yes (by first | omega | (simp only [wrap64] at *; omega)) (EvF.ite (fun h3 => (ih (i + 1)   hd2)) fun h3 => (EvF.yes (by first | omega | (simp only [wrap64] at *; omega)) (EvF.ite (fun h4 => (ih (i + 1)   hd2)) fun h4 => (EvF.now (fit_bool _))))))))))))))
def spec_l7Id.v (a0 : ByteArray) : Bool :=
  (spec_l7Id.l6.v a0 (bytesOf a0) 0)
theorem spec_l7Id.v_ev (a0 : ByteArray) (f_a0 : fitSh .str a0) : EvF .bool (fun K _ => spec_l7Id.f K a0) (spec_l7Id.v a0) := by
  unfold spec_l7Id.v
  exact EvF.fn (fun k => spec_l7Id.f_eq k a0) (EvF.diag (spec_l7Id.l6.v_ev a0 (f_a0)  _ 0    rfl))

def impl_yletter.v (a0 : Int) : Bool :=
  (if (a0 : Int) ≥ 97 then (if (a0 : Int) ≤ 122 then true else (if (a0 : Int) ≥ 65 then (decide ((a0 : Int) ≤ 90)) else false)) else (if (a0 : Int) ≥ 65 then (decide ((a0 : Int) ≤ 90)) else false))
theorem impl_yletter.v_ev (a0 : Int) (f_a0 : fitSh (.int .u8) a0) : EvF .bool (fun K _ => impl_yletter.f K a0) (impl_yletter.v a0) := by
  unfold impl_yletter.v
  exact EvF.fn (fun k => impl_yletter.f_eq k a0) (EvF.ite (fun h0 => (EvF.ite (fun h1 => (EvF.now (fit_bool _))) fun h1 => (EvF.ite (fun h2 => (EvF.now (fit_bool _))) fun h2 => (EvF.now (fit_bool _))))) fun h0 => (EvF.ite (fun h1 => (EvF.now (fit_bool _))) fun h1 => (EvF.now (fit_bool _))))
def impl_ydigit.v (a0 : Int) : Bool :=
  (if (a0 : Int) ≥ 48 then (decide ((a0 : Int) ≤ 57)) else false)
theorem impl_ydigit.v_ev (a0 : Int) (f_a0 : fitSh (.int .u8) a0) : EvF .bool (fun K _ => impl_ydigit.f K a0) (impl_ydigit.v a0) := by
  unfold impl_ydigit.v
  exact EvF.fn (fun k => impl_ydigit.f_eq k a0) (EvF.ite (fun h0 => (EvF.now (fit_bool _))) fun h0 => (EvF.now (fit_bool _)))
def impl_ywordByte.v (a0 : Int) : Bool :=
  (let t0 := impl_yletter.v a0; (if t0 = true then true else (let t1 := impl_ydigit.v a0; (if t1 = true then true else (decide ((a0 : Int) = 95))))))
theorem impl_ywordByte.v_ev (a0 : Int) (f_a0 : fitSh (.int .u8) a0) : EvF .bool (fun K _ => impl_ywordByte.f K a0) (impl_ywordByte.v a0) := by
  unfold impl_ywordByte.v
  exact EvF.fn (fun k => impl_ywordByte.f_eq k a0) (EvF.bind (impl_yletter.v_ev _ (f_a0)) fun f_t0 => (EvF.ite (fun h0 => (EvF.now (fit_bool _))) fun h0 => (EvF.bind (impl_ydigit.v_ev _ (f_a0)) fun f_t1 => (EvF.ite (fun h1 => (EvF.now (fit_bool _))) fun h1 => (EvF.now (fit_bool _))))))
def impl_ygoodId.l14.v   : List Int → Nat → Bool
  | [], i => true
  | e :: rest, i => (let t0 := impl_ywordByte.v e; (if t0 = true then (impl_ygoodId.l14.v rest (i + 1)) else (if (e : Int) = 45 then (impl_ygoodId.l14.v rest (i + 1)) else (if (e : Int) = 46 then (impl_ygoodId.l14.v rest (i + 1)) else false))))
theorem impl_ygoodId.l14.v_ev (x0 : ByteArray) (f_x0 : fitSh .str x0)  : ∀ (rest : List Int) (i : Nat)  , (bytesOf x0).drop i = rest → EvF .bool (fun K j => impl_ygoodId.l14 K j x0 (x0.size : Int) (i : Int)) (impl_ygoodId.l14.v  rest i ) := by
  have bX : x0.size ≤ 140737488351232 := f_x0
  intro rest
  induction rest with
  | nil =>
    intro i hd
    have hz := bdrop_none hd
    unfold impl_ygoodId.l14.v
    exact EvF.lp (fun K j => impl_ygoodId.l14_eq K j x0 (x0.size : Int) (i : Int)) (EvF.no (by omega) (EvF.now (fit_bool _)))
  | cons e rest ih =>
    intro i hd
    obtain ⟨hlt, hd2, hx⟩ := bdrop_more hd
    have f_e : fitSh (.int .u8) e := hx ▸ fit_bt x0 _
    have b_e := bt_range x0 i
    rw [hx] at b_e
    have f_i : fitSh (.int .i64) (i : Int) := fit_len (by omega)
    unfold impl_ygoodId.l14.v
    refine EvF.lp (fun K j => impl_ygoodId.l14_eq K j x0 (x0.size : Int) (i : Int)) (EvF.yes (by omega) ?_)
    try rw [hx]
    try rw [wrap_nat (i := i) (by omega)]
    exact (EvF.yes (by first | omega | (simp only [wrap64] at *; omega)) (EvF.bind (impl_ywordByte.v_ev _ (f_e)) fun f_t0 => (EvF.ite (fun h0 => (ih (i + 1)   hd2)) fun h0 => (EvF.yes (by first | omega | (simp only [wrap64] at *; omega)) (EvF.ite (fun h1 => (ih (i + 1)   hd2)) fun h1 => (EvF.yes (by first | omega | (simp only [wrap64] at *; omega)) (EvF.ite (fun h2 => (ih (i + 1)   hd2)) fun h2 => (EvF.now (fit_bool _)))))))))
def impl_ygoodId.v (a0 : ByteArray) : Bool :=
  (if ((a0.size : Int) : Int) < 1 then false else (if ((a0.size : Int) : Int) > 40 then false else (impl_ygoodId.l14.v (bytesOf a0) 0)))
theorem impl_ygoodId.v_ev (a0 : ByteArray) (f_a0 : fitSh .str a0) : EvF .bool (fun K _ => impl_ygoodId.f K a0) (impl_ygoodId.v a0) := by
  unfold impl_ygoodId.v
  exact EvF.fn (fun k => impl_ygoodId.f_eq k a0) (EvF.ite (fun h0 => (EvF.now (fit_bool _))) fun h0 => (EvF.ite (fun h1 => (EvF.now (fit_bool _))) fun h1 => (EvF.diag (impl_ygoodId.l14.v_ev a0 (f_a0)  _ 0    rfl))))

theorem id_l6 (x : ByteArray) : ∀ (rest : List Int) (i : Nat), spec_l7Id.l6.v x rest i = (impl_ygoodId.l14.v rest i && (decide ((x.size : Int) ≥ 1) && decide ((x.size : Int) ≤ 40)))
  | [], i => by
    unfold spec_l7Id.l6.v impl_ygoodId.l14.v
    split
    · rename_i h; rw [decide_eq_true h]; simp
    · rename_i h; rw [decide_eq_false h]; simp
  | e :: rest, i => by
    unfold spec_l7Id.l6.v impl_ygoodId.l14.v
    simp only [id_l6 x rest (i + 1), impl_ywordByte.v, show impl_yletter.v e = spec_l1Letter.v e from rfl, show impl_ydigit.v e = spec_l1Digit.v e from rfl]
    cases spec_l1Letter.v e <;> cases spec_l1Digit.v e <;> by_cases h1 : e = 95 <;> by_cases h2 : e = 45 <;> by_cases h3 : e = 46 <;> simp [h1, h2, h3]
theorem id_same (x : ByteArray) : spec_l7Id.v x = impl_ygoodId.v x := by
  unfold spec_l7Id.v impl_ygoodId.v
  rw [id_l6]
  split
  · rename_i h; rw [decide_eq_false (by omega : ¬ ((x.size : Int) ≥ 1))]; simp
  split
  · rename_i h h2; rw [decide_eq_false (by omega : ¬ ((x.size : Int) ≤ 40))]; simp
  · rename_i h h2; rw [decide_eq_true (by omega : ((x.size : Int) ≥ 1)), decide_eq_true (by omega : ((x.size : Int) ≤ 40))]; simp

/-! ### a tuple's text -/
def spec_l7Empty.v (a0 : T26) : Bool :=
  (if (a0.1 : Int) = 0 then (if (eqD S22 (a0.2.1 : T22) ((0, (0, ((⟨#[]⟩ : ByteArray), ((⟨#[]⟩ : ByteArray), ())))) : T22)) = true then (if ((a0.2.2.1.length : Int) : Int) = 0 then (decide (((a0.2.2.2.1.length : Int) : Int) = 0)) else false) else false) else false)
theorem spec_l7Empty.v_ev (a0 : T26) (f_a0 : fitSh S26 a0) : EvF .bool (fun K _ => spec_l7Empty.f K a0) (spec_l7Empty.v a0) := by
  unfold spec_l7Empty.v
  exact EvF.fn (fun k => spec_l7Empty.f_eq k a0) (EvF.ite (fun h0 => (EvF.ite (fun h1 => (EvF.ite (fun h2 => (EvF.now (fit_bool _))) fun h2 => (EvF.now (fit_bool _)))) fun h1 => (EvF.now (fit_bool _)))) fun h0 => (EvF.now (fit_bool _)))

def impl_yzeroValue.v (a0 : T26) : Bool :=
  (if (a0.1 : Int) = 0 then (let t0 := impl_yzeroAtom.v a0.2.1; (if t0 = true then (if ((a0.2.2.1.length : Int) : Int) = 0 then (decide (((a0.2.2.2.1.length : Int) : Int) = 0)) else false) else false)) else false)
theorem impl_yzeroValue.v_ev (a0 : T26) (f_a0 : fitSh S26 a0) : EvF .bool (fun K _ => impl_yzeroValue.f K a0) (impl_yzeroValue.v a0) := by
  unfold impl_yzeroValue.v
  exact EvF.fn (fun k => impl_yzeroValue.f_eq k a0) (EvF.ite (fun h0 => (EvF.bind (impl_yzeroAtom.v_ev _ (f_a0.2.1)) fun f_t0 => (EvF.ite (fun h1 => (EvF.ite (fun h2 => (EvF.now (fit_bool _))) fun h2 => (EvF.now (fit_bool _)))) fun h1 => (EvF.now (fit_bool _))))) fun h0 => (EvF.now (fit_bool _)))

def spec_l6Record.v (a0 : T26) : Bool :=
  (if (a0.1 : Int) = 3 then (spec_GoodValue.v a0) else false)
theorem spec_l6Record.v_ev (a0 : T26) (f_a0 : fitSh S26 a0) : EvF .bool (fun K _ => spec_l6Record.f K a0) (spec_l6Record.v a0) := by
  unfold spec_l6Record.v
  exact EvF.fn (fun k => spec_l6Record.f_eq k a0) (EvF.ite (fun h0 => (EvF.bind (spec_GoodValue.v_ev _ (f_a0)) fun f_t0 => (EvF.now (fit_bool _)))) fun h0 => (EvF.now (fit_bool _)))

def impl_ygoodRecord.v (a0 : T26) : Bool :=
  (if (a0.1 : Int) = 3 then (impl_GoodValue.v a0) else false)
theorem impl_ygoodRecord.v_ev (a0 : T26) (f_a0 : fitSh S26 a0) : EvF .bool (fun K _ => impl_ygoodRecord.f K a0) (impl_ygoodRecord.v a0) := by
  unfold impl_ygoodRecord.v
  exact EvF.fn (fun k => impl_ygoodRecord.f_eq k a0) (EvF.ite (fun h0 => (EvF.bind (impl_GoodValue.v_ev _ (f_a0)) fun f_t0 => (EvF.now (fit_bool _)))) fun h0 => (EvF.now (fit_bool _)))

theorem empty_same (v : T26) : impl_yzeroValue.v v = spec_l7Empty.v v := by
  unfold impl_yzeroValue.v spec_l7Empty.v impl_yzeroAtom.v
  rfl
theorem record_same (v : T26) : impl_ygoodRecord.v v = spec_l6Record.v v := by
  unfold impl_ygoodRecord.v spec_l6Record.v
  simp only [value_same]
theorem appS_sz (a b : ByteArray) : (appS a b).size = a.size + b.size := by unfold appS; rw [ByteArray.size_append]
theorem valueT_len (v : T26) (f : fitSh S26 v) : (valueT v).size ≤ 30000 := by
  unfold valueT
  split
  · rename_i g
    rw [bsz]
    unfold valueL
    have hw := i64_of f.2.1.2.1
    rcases value_ok f g with ⟨h1, h2, h3⟩ | ⟨hk, hI⟩
    · rw [if_pos h1]
      have := textL_len hw.1 hw.2 h2
      omega
    · rw [if_neg (by omega)]
      have := jn_len hI v.2.2.1.length (Nat.le_refl _)
      have := hI.len
      unfold wrapL
      split <;> (rw [List.length_append, List.length_append]; show 1 + _ + 1 ≤ _; omega)
  · show (0 : Nat) ≤ _; omega
structure TupSm (t : T28) : Prop where
  a : t.1.size ≤ 1048576
  b : t.2.1.size ≤ 1048576
  c : t.2.2.1.size ≤ 1048576
  d : t.2.2.2.1.size ≤ 1048576
  e : t.2.2.2.2.1.size ≤ 1048576
  f : t.2.2.2.2.2.1.size ≤ 1048576
  g : t.2.2.2.2.2.2.1.size ≤ 1048576
  h : fitSh S26 t.2.2.2.2.2.2.2.1
def tupF (t : T28) : Bool :=
  goodName t.1 && spec_l7Id.v t.2.1 && goodName t.2.2.1 && goodName t.2.2.2.1 && (decide (t.2.2.2.2.1.toList = (⟨#[42]⟩ : ByteArray).toList) || spec_l7Id.v t.2.2.2.2.1) && (decide (t.2.2.2.2.2.1.toList = (⟨#[]⟩ : ByteArray).toList) || goodName t.2.2.2.2.2.1) &&
    (if t.2.2.2.2.2.2.1.toList = (⟨#[]⟩ : ByteArray).toList then spec_l7Empty.v t.2.2.2.2.2.2.2.1 else goodName t.2.2.2.2.2.2.1 && spec_l6Record.v t.2.2.2.2.2.2.2.1)
def subR (t : T28) : ByteArray := if t.2.2.2.2.2.1.toList = (⟨#[]⟩ : ByteArray).toList then appS (appS t.2.2.2.1 (⟨#[58]⟩ : ByteArray)) t.2.2.2.2.1 else appS (appS (appS t.2.2.2.1 (⟨#[58]⟩ : ByteArray)) t.2.2.2.2.1) (appS (⟨#[35]⟩ : ByteArray) t.2.2.2.2.2.1)
def subT (t : T28) : ByteArray := if t.2.2.2.2.2.2.1.toList = (⟨#[]⟩ : ByteArray).toList then subR t else appS (subR t) (appS (appS (appS (appS (⟨#[91]⟩ : ByteArray) t.2.2.2.2.2.2.1) (⟨#[58]⟩ : ByteArray)) (valueT t.2.2.2.2.2.2.2.1)) (⟨#[93]⟩ : ByteArray))
def tupT (t : T28) : ByteArray := if tupF t = true then appS (appS (appS (appS (appS (appS t.1 (⟨#[58]⟩ : ByteArray)) t.2.1) (⟨#[35]⟩ : ByteArray)) t.2.2.1) (⟨#[64]⟩ : ByteArray)) (subT t) else (⟨#[]⟩ : ByteArray)
theorem subT_len {t : T28} (h : TupSm t) : (subT t).size ≤ 5000000 := by
  obtain ⟨_, _, _, h4, h5, h6, h7, h8⟩ := h
  have hv := valueT_len _ h8
  unfold subT subR
  split <;> split <;> (simp only [appS_sz]; simp only [show (⟨#[58]⟩ : ByteArray).size = 1 from rfl, show (⟨#[35]⟩ : ByteArray).size = 1 from rfl, show (⟨#[91]⟩ : ByteArray).size = 1 from rfl, show (⟨#[93]⟩ : ByteArray).size = 1 from rfl]; omega)
theorem spec_l7Form_ev {t : T28} (h : TupSm t) : Ev (fun K _ => spec_l7Form.f K t) (tupF t) := by
  have nm : ∀ x : ByteArray, x.size ≤ 1048576 → Ev (fun K _ => spec_GoodName.f K x) (goodName x) := fun x hx => spec_GoodName_ev x (by omega)
  have id : ∀ x : ByteArray, x.size ≤ 1048576 → Ev (fun K _ => spec_l7Id.f K x) (spec_l7Id.v x) := fun x hx => (spec_l7Id.v_ev x (show x.size ≤ 140737488351232 by omega)).1
  have em := (spec_l7Empty.v_ev t.2.2.2.2.2.2.2.1 h.h).1
  have rc := (spec_l6Record.v_ev t.2.2.2.2.2.2.2.1 h.h).1
  refine Ev.fn (fun k => spec_l7Form.f_eq k t) ((nm _ h.a).bind (Ev.ite (fun a1 => (id _ h.b).bind (Ev.ite (fun a2 => (nm _ h.c).bind (Ev.ite (fun a3 => (nm _ h.d).bind (Ev.ite (fun a4 => ?_) fun a4 => ?_)) fun a3 => ?_)) fun a2 => ?_)) fun a1 => ?_))
  · have ends : ∀ q : Bool, (decide (t.2.2.2.2.1.toList = (⟨#[42]⟩ : ByteArray).toList) || spec_l7Id.v t.2.2.2.2.1) = true → (decide (t.2.2.2.2.2.1.toList = (⟨#[]⟩ : ByteArray).toList) || goodName t.2.2.2.2.2.1) = true → q = (if t.2.2.2.2.2.2.1.toList = (⟨#[]⟩ : ByteArray).toList then spec_l7Empty.v t.2.2.2.2.2.2.2.1 else goodName t.2.2.2.2.2.2.1 && spec_l6Record.v t.2.2.2.2.2.2.2.1) → q = tupF t := fun q a5 a6 e => by
      unfold tupF
      rw [a1, a2, a3, a4, a5, a6, e]; rfl
    have cav : (decide (t.2.2.2.2.1.toList = (⟨#[42]⟩ : ByteArray).toList) || spec_l7Id.v t.2.2.2.2.1) = true → (decide (t.2.2.2.2.2.1.toList = (⟨#[]⟩ : ByteArray).toList) || goodName t.2.2.2.2.2.1) = true → Ev (fun k _ => if t.2.2.2.2.2.2.1.toList = (⟨#[]⟩ : ByteArray).toList then (spec_l7Empty.f k t.2.2.2.2.2.2.2.1).bind fun t4 => some t4 else (spec_GoodName.f k t.2.2.2.2.2.2.1).bind fun t4 => if t4 = true then (spec_l6Record.f k t.2.2.2.2.2.2.2.1).bind fun t5 => some t5 else some false) (tupF t) := fun a5 a6 => by
      refine Ev.ite (fun c => em.bind (Ev.some (ends _ a5 a6 (by rw [if_pos c])))) fun c => (nm _ h.g).bind (Ev.ite (fun d => rc.bind (Ev.some (ends _ a5 a6 (by rw [if_neg c, d]; rfl)))) fun d => Ev.some (ends _ a5 a6 (by rw [if_neg c, Bool.eq_false_iff.2 d]; rfl)))
    have rel : (decide (t.2.2.2.2.1.toList = (⟨#[42]⟩ : ByteArray).toList) || spec_l7Id.v t.2.2.2.2.1) = true → ¬ goodName t.2.2.2.2.2.1 = true → ¬ t.2.2.2.2.2.1.toList = (⟨#[]⟩ : ByteArray).toList → false = tupF t := fun a5 a6 a7 => by
      unfold tupF
      rw [a1, a2, a3, a4, a5, decide_eq_false a7, Bool.eq_false_iff.2 a6]; rfl
    refine Ev.ite (fun a5 => ?_) fun a5 => (id _ h.e).bind (Ev.ite (fun a6 => ?_) fun a6 => Ev.some (by unfold tupF; rw [a1, a2, a3, a4, decide_eq_false a5, Bool.eq_false_iff.2 a6]; rfl))
    · have q : (decide (t.2.2.2.2.1.toList = (⟨#[42]⟩ : ByteArray).toList) || spec_l7Id.v t.2.2.2.2.1) = true := by rw [decide_eq_true a5]; rfl
      exact Ev.ite (fun a7 => cav q (by rw [decide_eq_true a7]; rfl)) fun a7 => (nm _ h.f).bind (Ev.ite (fun a8 => cav q (by rw [a8, Bool.or_true])) fun a8 => Ev.some (rel q a8 a7))
    · have q : (decide (t.2.2.2.2.1.toList = (⟨#[42]⟩ : ByteArray).toList) || spec_l7Id.v t.2.2.2.2.1) = true := by rw [a6, Bool.or_true]
      exact Ev.ite (fun a7 => cav q (by rw [decide_eq_true a7]; rfl)) fun a7 => (nm _ h.f).bind (Ev.ite (fun a8 => cav q (by rw [a8, Bool.or_true])) fun a8 => Ev.some (rel q a8 a7))
  · exact Ev.some (by unfold tupF; rw [Bool.eq_false_iff.2 a4]; simp)
  · exact Ev.some (by unfold tupF; rw [Bool.eq_false_iff.2 a3]; simp)
  · exact Ev.some (by unfold tupF; rw [Bool.eq_false_iff.2 a2]; simp)
  · exact Ev.some (by unfold tupF; rw [Bool.eq_false_iff.2 a1]; simp)
theorem Ev.iteB {β : Type} {b : Bool} {A B : Nat → Nat → Option β} {r : β} (h1 : b = true → Ev A r) (h2 : b = false → Ev B r) : Ev (fun K j => if b = true then A K j else B K j) r := Ev.ite h1 fun q => h2 (Bool.eq_false_iff.2 q)
theorem limOk {n : Nat} (h : n ≤ 100000000) : n ≤ lim := by show n ≤ 4611686018427387904; omega
theorem spec_l7Subject_ev {t : T28} (h : TupSm t) : Ev (fun K _ => spec_l7Subject.f K t) (subT t) := by
  have hv := spec_ValueText_ev _ h.h
  have lv := valueT_len _ h.h
  obtain ⟨_, _, _, h4, h5, h6, h7, h8⟩ := h
  refine Ev.fn (fun k => spec_l7Subject.f_eq k t) ?_
  unfold subT subR
  repeat' (first | refine Ev.yes (limOk (by simp only [appS_sz, show (⟨#[58]⟩ : ByteArray).size = 1 from rfl, show (⟨#[35]⟩ : ByteArray).size = 1 from rfl, show (⟨#[91]⟩ : ByteArray).size = 1 from rfl, show (⟨#[93]⟩ : ByteArray).size = 1 from rfl]; omega)) ?_ | refine hv.bind ?_ | refine Ev.ite (fun q => ?_) fun q => ?_)
  all_goals exact Ev.some (by repeat' split
                              all_goals first | rfl | contradiction)
theorem impl_ysubjectText_ev {t : T28} (h : TupSm t) : Ev (fun K _ => impl_ysubjectText.f K t) (subT t) := by
  have hv := impl_ValueText_ev _ h.h
  have lv := valueT_len _ h.h
  obtain ⟨_, _, _, h4, h5, h6, h7, h8⟩ := h
  refine Ev.fn (fun k => impl_ysubjectText.f_eq k t) ?_
  unfold subT subR
  repeat' (first | refine Ev.yes (limOk (by simp only [appS_sz, show (⟨#[58]⟩ : ByteArray).size = 1 from rfl, show (⟨#[35]⟩ : ByteArray).size = 1 from rfl, show (⟨#[91]⟩ : ByteArray).size = 1 from rfl, show (⟨#[93]⟩ : ByteArray).size = 1 from rfl]; omega)) ?_ | refine hv.bind ?_ | refine Ev.ite (fun q => ?_) fun q => ?_)
  all_goals exact Ev.some (by repeat' split
                              all_goals first | rfl | contradiction)
theorem spec_TupleText_ev {t : T28} (h : TupSm t) : Ev (fun K _ => spec_TupleText.f K t) (tupT t) := by
  have hs := spec_l7Subject_ev h
  have ls := subT_len h
  refine Ev.fn (fun k => spec_TupleText.f_eq k t) ((spec_l7Form_ev h).bind ?_)
  obtain ⟨h1, h2, h3, h4, h5, h6, h7, h8⟩ := h
  unfold tupT
  repeat' (first | refine Ev.yes (limOk (by simp only [appS_sz, show (⟨#[58]⟩ : ByteArray).size = 1 from rfl, show (⟨#[35]⟩ : ByteArray).size = 1 from rfl, show (⟨#[64]⟩ : ByteArray).size = 1 from rfl]; omega)) ?_ | refine hs.bind ?_ | refine Ev.iteB (fun q => ?_) fun q => ?_)
  all_goals exact Ev.some (by rw [q]; rfl)
theorem impl_TupleText_ev {t : T28} (h : TupSm t) : Ev (fun K _ => impl_TupleText.f K t) (tupT t) := by
  have hs := impl_ysubjectText_ev h
  have ls := subT_len h
  have nm : ∀ x : ByteArray, x.size ≤ 1048576 → Ev (fun K _ => impl_GoodName.f K x) (goodName x) := fun x hx => impl_GoodName_ev x (by omega)
  have id : ∀ x : ByteArray, x.size ≤ 1048576 → Ev (fun K _ => impl_ygoodId.f K x) (spec_l7Id.v x) := fun x hx => by
    rw [id_same]; exact (impl_ygoodId.v_ev x (show x.size ≤ 140737488351232 by omega)).1
  have em := (impl_yzeroValue.v_ev t.2.2.2.2.2.2.2.1 h.h).1
  rw [empty_same] at em
  have rc := (impl_ygoodRecord.v_ev t.2.2.2.2.2.2.2.1 h.h).1
  rw [record_same] at rc
  refine Ev.fn (fun k => impl_TupleText.f_eq k t) ?_
  obtain ⟨h1, h2, h3, h4, h5, h6, h7, h8⟩ := h
  refine em.bind ?_
  repeat' (first | refine (nm _ h1).bind ?_ | refine (nm _ h3).bind ?_ | refine (nm _ h4).bind ?_ | refine (nm _ h6).bind ?_ | refine (nm _ h7).bind ?_ | refine (id _ h2).bind ?_ | refine (id _ h5).bind ?_ | refine rc.bind ?_ | refine hs.bind ?_ | refine Ev.yes (limOk (by simp only [appS_sz, show (⟨#[58]⟩ : ByteArray).size = 1 from rfl, show (⟨#[35]⟩ : ByteArray).size = 1 from rfl, show (⟨#[64]⟩ : ByteArray).size = 1 from rfl]; omega)) ?_ | refine Ev.iteB (fun q => ?_) (fun q => ?_) | refine Ev.ite (fun q => ?_) (fun q => ?_))
  all_goals exact Ev.some (by unfold tupT tupF; simp only [*, eq_self, decide_true, decide_false, Bool.and_true, Bool.true_and, Bool.or_true, Bool.true_or, Bool.false_or, Bool.or_false, Bool.and_false, Bool.false_and, if_true, if_false, Bool.false_eq_true, reduceCtorEq])

/-! ### the law's measure -/
def SzP (g : Nat → Nat → Option Int) (m : Int) (P : Prop) : Prop := ∃ r, Ev g r ∧ -1 ≤ r ∧ r ≤ m ∧ (0 ≤ r → P)
theorem SzP.now {r m : Int} {P : Prop} (h : -1 ≤ r) (h1 : r ≤ m) (p : P) : SzP (fun _ _ => some r) m P := ⟨r, Ev.now _, h, h1, fun _ => p⟩
theorem SzP.cut {c : Prop} {inst : Decidable c} {B : Nat → Nat → Option Int} {m : Int} {P : Prop} (hm : -1 ≤ m) (h : ¬ c → SzP B m P) : SzP (fun K j => @ite _ c inst (some (-1)) (B K j)) m P := by
  by_cases e : c
  · exact ⟨-1, Ev.yes e (Ev.now _), by omega, hm, fun h => by omega⟩
  · obtain ⟨r, q, q1, q2, q3⟩ := h e
    exact ⟨r, Ev.no e q, q1, q2, q3⟩
theorem SzP.bind {g : Nat → Nat → Option Int} {f : Nat → Nat → Int → Option Int} {m m' : Int} {P P' : Prop} (h : SzP g m' P') (hm : -1 ≤ m) (k : ∀ r, 0 ≤ r → r ≤ m' → P' → SzP (fun K j => f K j r) m P) :
    SzP (fun K j => (g K j).bind fun t => if t < 0 then some (-1) else f K j t) m P := by
  obtain ⟨r, q, q1, q2, q3⟩ := h
  by_cases e : r < 0
  · exact ⟨-1, q.bind (Ev.yes e (Ev.now _)), by omega, hm, fun h => by omega⟩
  · obtain ⟨s, z, z1, z2, z3⟩ := k r (by omega) q2 (q3 (by omega))
    exact ⟨s, q.bind (Ev.no e z), z1, z2, z3⟩
theorem SzP.fn {f B : Nat → Option Int} {m : Int} {P : Prop} (e : ∀ k, f (k + 1) = B k) (h : SzP (fun K _ => B K) m P) : SzP (fun K _ => f K) m P := by
  obtain ⟨r, q, q1, q2, q3⟩ := h; exact ⟨r, Ev.fn e q, q1, q2, q3⟩
theorem SzP.imp {g : Nat → Nat → Option Int} {m m' : Int} {P P' : Prop} (h : SzP g m P) (hm : m ≤ m') (hp : P → P') : SzP g m' P' := by
  obtain ⟨r, q, q1, q2, q3⟩ := h; exact ⟨r, q, q1, by omega, fun z => hp (q3 z)⟩

/-! ### what the law's measure leaves: everything is short -/
def smSh : (s : Sh) → sem s → Prop
  | .int k, x => (Lit.int k x).wf = true
  | .bool, _ => True
  | .str, s => (s : ByteArray).size ≤ 1048576
  | .unit, _ => True
  | .pair a b, x => smSh a x.1 ∧ smSh b x.2
  | .list t, l => (l : List (sem t)).length ≤ 1048576 ∧ allIn (α := sem t) l (smSh t)
  | .rose _, _ => True
theorem SzP.len {g : Nat → Nat → Option Int} {m : Int} {P : Prop} (h : SzP g m P) (q : P) : SzP g m P := h
/-- a loop that measures a row's elements -/
theorem sz_row {α : Type} {L : Nat → Nat → Int → Int → Option Int} {l : List α} {P : α → Prop}
    (step : ∀ (i : Nat) (h : i < l.length) (m : Int), 0 ≤ m → m ≤ 1048576 → ∃ r, -1 ≤ r ∧ r ≤ m ∧ (0 ≤ r → P l[i]) ∧ (r < 0 → Ev (fun K j => L K j m (i : Int)) (-1)) ∧ (0 ≤ r → ∀ s, Ev (fun K j => L K j r ((i + 1 : Nat) : Int)) s → Ev (fun K j => L K j m (i : Int)) s))
    (done : ∀ m : Int, Ev (fun K j => L K j m (l.length : Int)) m) : ∀ (d i : Nat) (m : Int), l.length = i + d → 0 ≤ m → m ≤ 1048576 → SzP (fun K j => L K j m (i : Int)) m (∀ x ∈ l.drop i, P x) := by
  intro d
  induction d with
  | zero =>
    intro i m h h0 h1
    obtain rfl : i = l.length := by omega
    exact ⟨m, done m, by omega, by omega, fun _ x hx => by rw [List.drop_length] at hx; cases hx⟩
  | succ d ih =>
    intro i m h h0 h1
    obtain ⟨r, r1, r2, r3, r4, r5⟩ := step i (by omega) m h0 h1
    by_cases hr : r < 0
    · exact ⟨-1, r4 hr, by omega, by omega, fun h => by omega⟩
    · obtain ⟨s, q, q1, q2, q3⟩ := ih (i + 1) r (by omega) (by omega) (by omega)
      refine ⟨s, r5 (by omega) s q, q1, by omega, fun hs x hx => ?_⟩
      rw [List.drop_eq_getElem_cons (show i < l.length by omega)] at hx
      rcases List.mem_cons.1 hx with rfl | hx
      · exact r3 (by omega)
      · exact q3 hs x hx
theorem SzP.loop {L : Nat → Nat → Int → Int → Option Int} {m : Int} {P P' : Prop} (h : SzP (fun K j => L K j m 0) m P) (hp : P → P') : SzP (fun K _ => L K K m 0) m P' := by
  obtain ⟨r, q, q1, q2, q3⟩ := h
  exact ⟨r, Ev.diag q, q1, q2, fun z => hp (q3 z)⟩

/-! ### lists filled cell by cell -/
theorem Ev.slet {α β : Type} {f : Nat → Nat → α → Option β} {a : α} {r : β} (h : Ev (fun K j => f K j a) r) : Ev (fun K j => (some a).bind (f K j)) r := h
theorem copy_loopW {α β : Type} {W : List α → β} {L : Nat → Nat → Int → List α → Option β} {l : List α}
    (step : ∀ (i : Nat) (h : i < l.length) (y : List α), y.length = l.length → ∀ r, Ev (fun K j => L K j ((i + 1 : Nat) : Int) (put y (i : Int) l[i])) r → Ev (fun K j => L K j (i : Int) y) r)
    (done : ∀ y : List α, Ev (fun K j => L K j (l.length : Int) y) (W y)) : ∀ (d i : Nat) (y : List α), l.length = i + d → y.length = l.length → y.take i = l.take i → Ev (fun K j => L K j (i : Int) y) (W l) := by
  intro d
  induction d with
  | zero =>
    intro i y h hy ht
    obtain rfl : i = l.length := by omega
    rw [List.take_length, ← hy, List.take_length] at ht
    subst ht
    exact done y
  | succ d ih =>
    intro i y h hy ht
    refine step i (by omega) y hy _ (ih (i + 1) _ (by omega) (by unfold put; rw [List.length_set]; exact hy) ?_)
    unfold put
    rw [Int.toNat_natCast, List.take_succ_eq_append_getElem (by rw [List.length_set]; omega), List.take_succ_eq_append_getElem (show i < l.length by omega), List.getElem_set_self, List.take_set_of_le (Nat.le_refl _), ht]
theorem put_nat {α : Type} (l : List α) (i : Nat) (x : α) : put l (i : Int) x = l.set i x := by unfold put; rw [Int.toNat_natCast]
theorem put_length {α : Type} (l : List α) (i : Int) (x : α) : (put l i x).length = l.length := by unfold put; rw [List.length_set]
theorem put_put {α : Type} (l : List α) (i : Int) (x y : α) : put (put l i x) i y = put l i y := by unfold put; rw [List.set_set]
theorem rd_put {α : Type} (z : α) (l : List α) (i : Nat) (x : α) (h : i < l.length) : rd z (put l (i : Int) x) (i : Int) = x := by
  rw [rd_at _ _ _ (by rw [put_length]; exact h)]
  simp only [put_nat, List.getElem_set_self]

theorem toAtom_ev (a : T22) (h : smSh S22 a) : Ev (fun K _ => laws_toAtom.f K a) a := by
  obtain ⟨q0, q1, q2, q3, _⟩ := h
  exact Ev.fn (fun k => laws_toAtom.f_eq k a) (Ev.now _)
theorem eqAtom_ev (a : T22) (h : smSh S22 a) : Ev (fun K _ => laws_eqAtom.f K a a) true := by
  obtain ⟨q0, q1, q2, q3, _⟩ := h
  exact Ev.fn (fun k => laws_eqAtom.f_eq k a a) (Ev.yes rfl (Ev.yes rfl (Ev.yes rfl (Ev.yes rfl (Ev.now _)))))
theorem szAtom_ok (a : T22) (m : Int) (h0 : 0 ≤ m) (h1 : m ≤ 1048576) (hf : fitSh S22 a) : SzP (fun K _ => laws_szAtom.f K a m) m (smSh S22 a) := by
  obtain ⟨q0, q1, q2, q3, _⟩ := hf
  refine SzP.fn (fun k => laws_szAtom.f_eq k a m) ?_
  have b2 : a.2.2.1.size ≤ 140737488351232 := q2
  have w1 := wrap_id (x := m - (a.2.2.1.size : Int)) (by omega) (by omega)
  refine SzP.cut (by omega) fun c1 => ?_
  obtain ⟨m1, e1⟩ : ∃ z, z = wrap64 (m - (a.2.2.1.size : Int)) := ⟨_, rfl⟩
  simp only [← e1] at c1 w1 ⊢
  have b3 : a.2.2.2.1.size ≤ 140737488351232 := q3
  have w2 := wrap_id (x := m1 - (a.2.2.2.1.size : Int)) (by omega) (by omega)
  refine SzP.cut (by omega) fun c2 => ?_
  obtain ⟨m2, e2⟩ : ∃ z, z = wrap64 (m1 - (a.2.2.2.1.size : Int)) := ⟨_, rfl⟩
  simp only [← e2] at c2 w2 ⊢
  exact SzP.now (by omega) (by omega) ⟨q0, q1, (show a.2.2.1.size ≤ 1048576 by omega), (show a.2.2.2.1.size ≤ 1048576 by omega), trivial⟩
theorem toAtomS_ev (l : List T22) (hl : smSh (.list S22) l) : Ev (fun K _ => laws_toAtomS.f K l) l := by
  obtain ⟨hn, hl⟩ := hl
  have hn : l.length ≤ 1048576 := hn
  refine Ev.fn (fun k => laws_toAtomS.f_eq k l) (Ev.yes (by omega) (Ev.yes rfl (Ev.diag (copy_loopW (W := fun l => l) (L := fun K j i y => laws_toAtomS.l8 K j l i y) (fun i h y hy r hr => ?_) (fun y => ?_) l.length 0 _ (by omega) (reps_length _ _) rfl))))
  · refine Ev.lp (fun K j => laws_toAtomS.l8_eq K j l i y) (Ev.yes (by omega) ?_)
    rw [rd_at _ _ _ h, wrap_nat (by omega)]
    exact Ev.yes (by omega) ((toAtom_ev l[i] (hl _ (List.getElem_mem h))).bind (Ev.yes (by omega) (Ev.slet hr)))
  · exact Ev.lp (fun K j => laws_toAtomS.l8_eq K j l _ y) (Ev.no (by omega) (Ev.now _))
theorem eqAtomS_ev (l : List T22) (hl : smSh (.list S22) l) : Ev (fun K _ => laws_eqAtomS.f K l l) true := by
  obtain ⟨hn, hl⟩ := hl
  have hn : l.length ≤ 1048576 := hn
  refine Ev.fn (fun k => laws_eqAtomS.f_eq k l l) (Ev.yes rfl (Ev.diag (true_loop (L := fun K j i => laws_eqAtomS.l14 K j l l i) (n := l.length) (fun i h r hr => ?_) ?_ l.length 0 (by omega))))
  · refine Ev.lp (fun K j => laws_eqAtomS.l14_eq K j l l i) (Ev.yes (by omega) (Ev.yes (by omega) (Ev.yes (by omega) ((eqAtom_ev _ (by rw [rd_at _ _ _ h]; exact hl _ (List.getElem_mem h))).bind (Ev.yes rfl ?_)))))
    rw [wrap_nat (by omega)]; exact hr
  · exact Ev.lp (fun K j => laws_eqAtomS.l14_eq K j l l _) (Ev.no (by omega) (Ev.now _))
theorem szAtomS_ok (l : List T22) (m : Int) (h0 : 0 ≤ m) (h1 : m ≤ 1048576) (hf : fitSh (.list S22) l) : SzP (fun K _ => laws_szAtomS.f K l m) m (smSh (.list S22) l) := by
  obtain ⟨hn, hf⟩ := hf
  have hn : l.length ≤ 140737488351232 := hn
  refine SzP.fn (fun k => laws_szAtomS.f_eq k l m) ?_
  rw [wrap_id (x := m - (l.length : Int)) (by omega) (by omega)]
  refine SzP.cut (by omega) fun hc => ?_
  refine (SzP.loop (L := fun K j m i => laws_szAtomS.l16 K j l m i) (sz_row (L := fun K j m i => laws_szAtomS.l16 K j l m i) (l := l) (P := smSh S22) (fun i h m h0 h1 => ?_) (fun m => ?_) l.length 0 (m - l.length) (by omega) (by omega) (by omega)) fun p => ⟨show l.length ≤ 1048576 by omega, fun x hx => p x hx⟩).imp (by omega) fun p => p
  · obtain ⟨r, q, q1, q2, q3⟩ := szAtom_ok l[i] m h0 h1 (hf _ (List.getElem_mem h))
    refine ⟨r, q1, q2, q3, fun hr => ?_, fun hr s hs => ?_⟩
    · refine Ev.lp (fun K j => laws_szAtomS.l16_eq K j l m i) (Ev.yes (by omega) (Ev.yes (by omega) ?_))
      rw [rd_at _ _ _ h]; exact q.bind (Ev.yes hr (Ev.now _))
    · refine Ev.lp (fun K j => laws_szAtomS.l16_eq K j l m i) (Ev.yes (by omega) (Ev.yes (by omega) ?_))
      rw [rd_at _ _ _ h, wrap_nat (by omega)]; exact q.bind (Ev.no (by omega) hs)
  · exact Ev.lp (fun K j => laws_szAtomS.l16_eq K j l m _) (Ev.no (by omega) (Ev.now _))
theorem toStringS_ev (l : List ByteArray) (hl : smSh (.list .str) l) : Ev (fun K _ => laws_toStringS.f K l) l := by
  obtain ⟨hn, hl⟩ := hl
  have hn : l.length ≤ 1048576 := hn
  refine Ev.fn (fun k => laws_toStringS.f_eq k l) (Ev.yes (by omega) (Ev.yes rfl (Ev.diag (copy_loopW (W := fun l => l) (L := fun K j i y => laws_toStringS.l8 K j l i y) (fun i h y hy r hr => ?_) (fun y => ?_) l.length 0 _ (by omega) (reps_length _ _) rfl))))
  · refine Ev.lp (fun K j => laws_toStringS.l8_eq K j l i y) (Ev.yes (by omega) ?_)
    rw [rd_at _ _ _ h, wrap_nat (by omega)]
    exact Ev.yes (by omega) (Ev.yes (by omega) (Ev.slet hr))
  · exact Ev.lp (fun K j => laws_toStringS.l8_eq K j l _ y) (Ev.no (by omega) (Ev.now _))
theorem eqStringS_ev (l : List ByteArray) (hl : smSh (.list .str) l) : Ev (fun K _ => laws_eqStringS.f K l l) true := by
  obtain ⟨hn, hl⟩ := hl
  have hn : l.length ≤ 1048576 := hn
  refine Ev.fn (fun k => laws_eqStringS.f_eq k l l) (Ev.yes rfl (Ev.diag (true_loop (L := fun K j i => laws_eqStringS.l14 K j l l i) (n := l.length) (fun i h r hr => ?_) ?_ l.length 0 (by omega))))
  · refine Ev.lp (fun K j => laws_eqStringS.l14_eq K j l l i) (Ev.yes (by omega) (Ev.yes (by omega) (Ev.yes (by omega) (Ev.yes rfl ?_))))
    rw [wrap_nat (by omega)]; exact hr
  · exact Ev.lp (fun K j => laws_eqStringS.l14_eq K j l l _) (Ev.no (by omega) (Ev.now _))
theorem szStringS_ok (l : List ByteArray) (m : Int) (h0 : 0 ≤ m) (h1 : m ≤ 1048576) (hf : fitSh (.list .str) l) : SzP (fun K _ => laws_szStringS.f K l m) m (smSh (.list .str) l) := by
  obtain ⟨hn, hf⟩ := hf
  have hn : l.length ≤ 140737488351232 := hn
  refine SzP.fn (fun k => laws_szStringS.f_eq k l m) ?_
  rw [wrap_id (x := m - (l.length : Int)) (by omega) (by omega)]
  refine SzP.cut (by omega) fun hc => ?_
  refine (SzP.loop (L := fun K j m i => laws_szStringS.l16 K j l m i) (sz_row (L := fun K j m i => laws_szStringS.l16 K j l m i) (l := l) (P := smSh .str) (fun i h m h0 h1 => ?_) (fun m => ?_) l.length 0 (m - l.length) (by omega) (by omega) (by omega)) fun p => ⟨show l.length ≤ 1048576 by omega, fun x hx => p x hx⟩).imp (by omega) fun p => p
  · have b : l[i].size ≤ 140737488351232 := hf _ (List.getElem_mem h)
    have w := wrap_id (x := m - (l[i].size : Int)) (by omega) (by omega)
    refine ⟨if m - (l[i].size : Int) < 0 then -1 else m - (l[i].size : Int), ?_, ?_, ?_, ?_, ?_⟩
    · split <;> omega
    · split <;> omega
    · intro q; show l[i].size ≤ 1048576; split at q <;> omega
    · intro q
      refine Ev.lp (fun K j => laws_szStringS.l16_eq K j l m i) (Ev.yes (by omega) (Ev.yes (by omega) ?_))
      rw [rd_at _ _ _ h, w]
      exact Ev.yes (by split at q <;> omega) (Ev.now _)
    · intro q s hs
      rw [if_neg (by split at q <;> omega)] at hs
      refine Ev.lp (fun K j => laws_szStringS.l16_eq K j l m i) (Ev.yes (by omega) (Ev.yes (by omega) ?_))
      rw [rd_at _ _ _ h, w, wrap_nat (by omega)]
      exact Ev.no (by split at q <;> omega) hs
  · exact Ev.lp (fun K j => laws_szStringS.l16_eq K j l m _) (Ev.no (by omega) (Ev.now _))
theorem toValue_ev (a : T26) (h : smSh S26 a) : Ev (fun K _ => laws_toValue.f K a) a := by
  obtain ⟨q0, q1, q2, q3, _⟩ := h
  exact Ev.fn (fun k => laws_toValue.f_eq k a) ((toAtom_ev _ q1).bind ((toAtomS_ev _ q2).bind ((toStringS_ev _ q3).bind (Ev.now _))))
theorem eqValue_ev (a : T26) (h : smSh S26 a) : Ev (fun K _ => laws_eqValue.f K a a) true := by
  obtain ⟨q0, q1, q2, q3, _⟩ := h
  exact Ev.fn (fun k => laws_eqValue.f_eq k a a) (Ev.yes rfl ((eqAtom_ev _ q1).bind (Ev.yes rfl ((eqAtomS_ev _ q2).bind (Ev.yes rfl ((eqStringS_ev _ q3).bind (Ev.yes rfl (Ev.now _))))))))
theorem szValue_ok (a : T26) (m : Int) (h0 : 0 ≤ m) (h1 : m ≤ 1048576) (hf : fitSh S26 a) : SzP (fun K _ => laws_szValue.f K a m) m (smSh S26 a) := by
  obtain ⟨q0, q1, q2, q3, _⟩ := hf
  refine SzP.fn (fun k => laws_szValue.f_eq k a m) ?_
  refine SzP.bind (szAtom_ok _ m (by omega) (by omega) q1) (by omega) fun m1 r1 s1 p1 => ?_
  refine SzP.bind (szAtomS_ok _ m1 (by omega) (by omega) q2) (by omega) fun m2 r2 s2 p2 => ?_
  refine SzP.bind (szStringS_ok _ m2 (by omega) (by omega) q3) (by omega) fun m3 r3 s3 p3 => ?_
  exact SzP.now (by omega) (by omega) ⟨q0, p1, p2, p3, trivial⟩
theorem toTuple_ev (a : T28) (h : smSh S28 a) : Ev (fun K _ => laws_toTuple.f K a) a := by
  obtain ⟨q0, q1, q2, q3, q4, q5, q6, q7, _⟩ := h
  exact Ev.fn (fun k => laws_toTuple.f_eq k a) ((toValue_ev _ q7).bind (Ev.now _))
theorem eqTuple_ev (a : T28) (h : smSh S28 a) : Ev (fun K _ => laws_eqTuple.f K a a) true := by
  obtain ⟨q0, q1, q2, q3, q4, q5, q6, q7, _⟩ := h
  exact Ev.fn (fun k => laws_eqTuple.f_eq k a a) (Ev.yes rfl (Ev.yes rfl (Ev.yes rfl (Ev.yes rfl (Ev.yes rfl (Ev.yes rfl (Ev.yes rfl ((eqValue_ev _ q7).bind (Ev.yes rfl (Ev.now _))))))))))
theorem szTuple_ok (a : T28) (m : Int) (h0 : 0 ≤ m) (h1 : m ≤ 1048576) (hf : fitSh S28 a) : SzP (fun K _ => laws_szTuple.f K a m) m (smSh S28 a) := by
  obtain ⟨q0, q1, q2, q3, q4, q5, q6, q7, _⟩ := hf
  refine SzP.fn (fun k => laws_szTuple.f_eq k a m) ?_
  have b0 : a.1.size ≤ 140737488351232 := q0
  have w1 := wrap_id (x := m - (a.1.size : Int)) (by omega) (by omega)
  refine SzP.cut (by omega) fun c1 => ?_
  obtain ⟨m1, e1⟩ : ∃ z, z = wrap64 (m - (a.1.size : Int)) := ⟨_, rfl⟩
  simp only [← e1] at c1 w1 ⊢
  have b1 : a.2.1.size ≤ 140737488351232 := q1
  have w2 := wrap_id (x := m1 - (a.2.1.size : Int)) (by omega) (by omega)
  refine SzP.cut (by omega) fun c2 => ?_
  obtain ⟨m2, e2⟩ : ∃ z, z = wrap64 (m1 - (a.2.1.size : Int)) := ⟨_, rfl⟩
  simp only [← e2] at c2 w2 ⊢
  have b2 : a.2.2.1.size ≤ 140737488351232 := q2
  have w3 := wrap_id (x := m2 - (a.2.2.1.size : Int)) (by omega) (by omega)
  refine SzP.cut (by omega) fun c3 => ?_
  obtain ⟨m3, e3⟩ : ∃ z, z = wrap64 (m2 - (a.2.2.1.size : Int)) := ⟨_, rfl⟩
  simp only [← e3] at c3 w3 ⊢
  have b3 : a.2.2.2.1.size ≤ 140737488351232 := q3
  have w4 := wrap_id (x := m3 - (a.2.2.2.1.size : Int)) (by omega) (by omega)
  refine SzP.cut (by omega) fun c4 => ?_
  obtain ⟨m4, e4⟩ : ∃ z, z = wrap64 (m3 - (a.2.2.2.1.size : Int)) := ⟨_, rfl⟩
  simp only [← e4] at c4 w4 ⊢
  have b4 : a.2.2.2.2.1.size ≤ 140737488351232 := q4
  have w5 := wrap_id (x := m4 - (a.2.2.2.2.1.size : Int)) (by omega) (by omega)
  refine SzP.cut (by omega) fun c5 => ?_
  obtain ⟨m5, e5⟩ : ∃ z, z = wrap64 (m4 - (a.2.2.2.2.1.size : Int)) := ⟨_, rfl⟩
  simp only [← e5] at c5 w5 ⊢
  have b5 : a.2.2.2.2.2.1.size ≤ 140737488351232 := q5
  have w6 := wrap_id (x := m5 - (a.2.2.2.2.2.1.size : Int)) (by omega) (by omega)
  refine SzP.cut (by omega) fun c6 => ?_
  obtain ⟨m6, e6⟩ : ∃ z, z = wrap64 (m5 - (a.2.2.2.2.2.1.size : Int)) := ⟨_, rfl⟩
  simp only [← e6] at c6 w6 ⊢
  have b6 : a.2.2.2.2.2.2.1.size ≤ 140737488351232 := q6
  have w7 := wrap_id (x := m6 - (a.2.2.2.2.2.2.1.size : Int)) (by omega) (by omega)
  refine SzP.cut (by omega) fun c7 => ?_
  obtain ⟨m7, e7⟩ : ∃ z, z = wrap64 (m6 - (a.2.2.2.2.2.2.1.size : Int)) := ⟨_, rfl⟩
  simp only [← e7] at c7 w7 ⊢
  refine SzP.bind (szValue_ok _ m7 (by omega) (by omega) q7) (by omega) fun m8 r8 s8 p7 => ?_
  exact SzP.now (by omega) (by omega) ⟨(show a.1.size ≤ 1048576 by omega), (show a.2.1.size ≤ 1048576 by omega), (show a.2.2.1.size ≤ 1048576 by omega), (show a.2.2.2.1.size ≤ 1048576 by omega), (show a.2.2.2.2.1.size ≤ 1048576 by omega), (show a.2.2.2.2.2.1.size ≤ 1048576 by omega), (show a.2.2.2.2.2.2.1.size ≤ 1048576 by omega), p7, trivial⟩

theorem Pure.FnExactTupleText : laws_FnExactTupleText.Pure := by
  intro v f
  apply Ev.rounds
  obtain ⟨z, e, _, _, hz⟩ := szTuple_ok v 1048576 (by omega) (by omega) f
  refine Ev.fn (fun k => laws_FnExactTupleText.f_eq k v) (e.bind (Ev.ite (fun _ => Ev.now _) fun h => ?_))
  have s1 := hz (by omega)
  have hs : TupSm v := ⟨s1.1, s1.2.1, s1.2.2.1, s1.2.2.2.1, s1.2.2.2.2.1, s1.2.2.2.2.2.1, s1.2.2.2.2.2.2.1, f.2.2.2.2.2.2.2.1⟩
  exact (toTuple_ev v s1).bind ((spec_TupleText_ev hs).bind ((toTuple_ev v s1).bind ((impl_TupleText_ev hs).bind (Ev.yes rfl ((toTuple_ev v s1).bind ((eqTuple_ev v s1).bind (Ev.yes rfl (Ev.now _))))))))

end Go.Proofs.YtaejbcahfnlggaaGreatDoor.PU
