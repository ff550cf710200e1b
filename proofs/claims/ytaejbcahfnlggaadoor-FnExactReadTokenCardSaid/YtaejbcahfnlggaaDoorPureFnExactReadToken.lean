-- The plain law of this claim: no program in sight but the equations of its functions.
import Derived.Test.YtaejbcahfnlggaaDoorFitFnExactReadToken
import Derived.Test.YtaejbcahfnlggaaDoorDenP
namespace Go.Proofs.YtaejbcahfnlggaaDoor.PT
open Go Go.Den
open Go.RowKit (wrap64)
set_option linter.unusedVariables false
set_option linter.unusedSimpArgs false
set_option linter.unusedSectionVars false
set_option maxRecDepth 20000
/-! ### values beside their measure -/
theorem wf_range {k : IntKind} {x : Int} (h : k.min ≤ x ∧ x ≤ k.max) : (Lit.int k x).wf = true := by
  simp [Lit.wf]; exact h
theorem fit_bool (b : Bool) : fitSh .bool b := trivial
theorem fit_unit : fitSh .unit () := trivial
theorem fit_pair {a b : Sh} {x : sem a} {y : sem b} (h : fitSh a x) (g : fitSh b y) : fitSh (.pair a b) (x, y) := ⟨h, g⟩
theorem fit_lst {t : Sh} {l : List (sem t)} (h : l.length ≤ 140737488351232) (g : allIn (α := sem t) l (fitSh t)) : fitSh (.list t) l := ⟨h, g⟩
theorem fit_dflt : ∀ s : Sh, fitSh s (dflt s)
  | .int k => by cases k <;> rfl
  | .bool => trivial
  | .str => by show (0 : Nat) ≤ _; omega
  | .unit => trivial
  | .pair a b => ⟨fit_dflt a, fit_dflt b⟩
  | .list t => ⟨Nat.zero_le _, fun x hx => by cases hx⟩
  | .rose t => trivial
theorem fit_rd {t : Sh} {l : List (sem t)} (h : fitSh (.list t) l) (i : Int) : fitSh t (rd (dflt t) l i) := by
  unfold rd
  rw [List.getD_eq_getElem?_getD]
  cases hi : l[i.toNat]? with
  | none => exact fit_dflt t
  | some x => exact h.2 x (List.mem_of_getElem? hi)
theorem fit_cut {t : Sh} {l : List (sem t)} (h : fitSh (.list t) l) (a b : Int) : fitSh (.list t) (cut l a b) := by
  unfold cut
  refine ⟨?_, fun x hx => h.2 x (List.mem_of_mem_take (List.mem_of_mem_drop hx))⟩
  have h1 : l.length ≤ 140737488351232 := h.1
  show List.length _ ≤ _
  rw [List.length_drop, List.length_take]; omega
theorem fit_nil {t : Sh} : fitSh (.list t) ([] : List (sem t)) := ⟨Nat.zero_le _, fun x hx => by cases hx⟩
theorem fit_cons {t : Sh} {x : sem t} {l : List (sem t)} (hx : fitSh t x) (h : allIn (α := sem t) l (fitSh t)) : allIn (α := sem t) (x :: l) (fitSh t) := fun y hy => by
  rcases List.mem_cons.1 hy with rfl | hy
  · exact hx
  · exact h y hy
theorem fit_cutS {s : ByteArray} (h : fitSh .str s) (a b : Int) : fitSh .str (cutS s a b) := by
  have h : s.size ≤ 140737488351232 := h
  show (s.extract a.toNat b.toNat).size ≤ _
  rw [ByteArray.size_extract]; omega
theorem fit_len {n : Nat} (h : n ≤ 140737488351232) : fitSh (.int .i64) (n : Int) := wf_range (by simp only [IntKind.min, IntKind.max, IntKind.signed, IntKind.bits]; constructor <;> simp <;> omega)
theorem fit_wrap (x : Int) : fitSh (.int .i64) (wrap64 x) := wf_range (by simp only [IntKind.min, IntKind.max, IntKind.signed, IntKind.bits]; unfold wrap64; constructor <;> simp <;> omega)
theorem fit_i64 {x : Int} (h : -9223372036854775808 ≤ x ∧ x ≤ 9223372036854775807) : fitSh (.int .i64) x := wf_range (by simp only [IntKind.min, IntKind.max, IntKind.signed, IntKind.bits]; constructor <;> simp <;> omega)
theorem i64_of {x : Int} (h : fitSh (.int .i64) x) : -9223372036854775808 ≤ x ∧ x ≤ 9223372036854775807 := by
  have h : (Lit.int .i64 x).wf = true := h
  simp [Lit.wf, IntKind.min, IntKind.max, IntKind.signed, IntKind.bits] at h
  omega
theorem fit_bytes {s : ByteArray} (h : Nat.ble s.size 140737488351232 = true) : fitSh .str s := Nat.le_of_ble_eq_true h
theorem fit_u8 {x : Int} (h : 0 ≤ x ∧ x ≤ 255) : fitSh (.int .u8) x := wf_range (by simp only [IntKind.min, IntKind.max, IntKind.signed, IntKind.bits]; constructor <;> simp <;> omega)
theorem fit_bt (s : ByteArray) (i : Int) : fitSh (.int .u8) (bt s i) := fit_u8 (bt_range s i)
theorem fit_wfb {k : IntKind} {x : Int} (h : (Lit.int k x).wf = true) : fitSh (.int k) x := h
def EvF (s : Sh) (g : Nat → Nat → Option (sem s)) (r : sem s) : Prop := Ev g r ∧ fitSh s r
section
variable {s s' : Sh} {r : sem s}
theorem EvF.some {a : sem s} (h : a = r) (f : fitSh s r) : EvF s (fun _ _ => Option.some a) r := ⟨Ev.some h, f⟩
theorem EvF.now (f : fitSh s r) : EvF s (fun _ _ => Option.some r) r := ⟨Ev.now r, f⟩
theorem EvF.yes {c : Prop} {inst : Decidable c} {A B : Nat → Nat → Option (sem s)} (h : c) (k : EvF s A r) : EvF s (fun K j => @ite _ c inst (A K j) (B K j)) r := ⟨k.1.congr fun _ _ => if_pos h, k.2⟩
theorem EvF.no {c : Prop} {inst : Decidable c} {A B : Nat → Nat → Option (sem s)} (h : ¬ c) (k : EvF s B r) : EvF s (fun K j => @ite _ c inst (A K j) (B K j)) r := ⟨k.1.congr fun _ _ => if_neg h, k.2⟩
theorem EvF.ite {c : Prop} {inst : Decidable c} {A B : Nat → Nat → Option (sem s)} {x y : sem s} (h : c → EvF s A x) (k : ¬ c → EvF s B y) : EvF s (fun K j => @ite _ c inst (A K j) (B K j)) (@ite _ c inst x y) := by
  by_cases e : c
  · rw [if_pos e]; exact EvF.yes e (h e)
  · rw [if_neg e]; exact EvF.no e (k e)
theorem EvF.bind {g : Nat → Nat → Option (sem s')} {f : Nat → Nat → sem s' → Option (sem s)} {a : sem s'} (h : EvF s' g a) (k : fitSh s' a → EvF s (fun K j => f K j a) r) : EvF s (fun K j => (g K j).bind (f K j)) r :=
  ⟨h.1.bind (k h.2).1, (k h.2).2⟩
theorem EvF.fn {f B : Nat → Option (sem s)} (e : ∀ k, f (k + 1) = B k) (h : EvF s (fun K _ => B K) r) : EvF s (fun K _ => f K) r := ⟨Ev.fn e h.1, h.2⟩
theorem EvF.lp {L B : Nat → Nat → Option (sem s)} (e : ∀ K j, L K (j + 1) = B K j) (h : EvF s B r) : EvF s L r := ⟨Ev.lp e h.1, h.2⟩
theorem EvF.diag {L : Nat → Nat → Option (sem s)} (h : EvF s L r) : EvF s (fun K _ => L K K) r := ⟨Ev.diag h.1, h.2⟩
end
theorem drop_more {α : Type} {l : List α} {i : Nat} {x : α} {r : List α} (h : l.drop i = x :: r) : i < l.length ∧ l.drop (i + 1) = r ∧ ∀ z, rd z l (i : Int) = x := by
  have hi : i < l.length := by
    rcases Nat.lt_or_ge i l.length with q | q
    · exact q
    · rw [List.drop_eq_nil_of_le q] at h; cases h
  rw [List.drop_eq_getElem_cons hi] at h
  obtain ⟨h1, h2⟩ := List.cons.inj h
  exact ⟨hi, h2, fun z => by rw [rd_at z l i hi]; exact h1⟩
theorem drop_none {α : Type} {l : List α} {i : Nat} (h : l.drop i = []) : l.length ≤ i := by
  have := congrArg List.length h
  rw [List.length_drop] at this
  simp at this; omega
theorem bdrop_more {s : ByteArray} {i : Nat} {x : Int} {r : List Int} (h : (bytesOf s).drop i = x :: r) : i < s.size ∧ (bytesOf s).drop (i + 1) = r ∧ bt s (i : Int) = x := by
  have hi : i < s.size := by
    rcases Nat.lt_or_ge i s.size with q | q
    · exact q
    · rw [List.drop_eq_nil_of_le (by rw [bytesOf_length]; exact q)] at h; cases h
  rw [drop_bytes s i hi] at h
  obtain ⟨h1, h2⟩ := List.cons.inj h
  exact ⟨hi, h2, h1⟩
theorem bdrop_none {s : ByteArray} {i : Nat} (h : (bytesOf s).drop i = []) : s.size ≤ i := by
  have := congrArg List.length h
  rw [List.length_drop, bytesOf_length] at this
  simp at this; omega

/-! ### the digest -/
abbrev M4 : Type := Int × Int × Int × Int
def mixV (a m x b : Int) : Int := remI (wrap64 (wrap64 (wrap64 (wrap64 (a * m) + x) + 1) + b)) 2147483579
def eatV (s : M4) (x : Int) : M4 :=
  (mixV s.1 1103515245 x s.2.1, mixV s.2.1 69069 x s.2.2.1, mixV s.2.2.1 1664525 x s.2.2.2, mixV s.2.2.2 22695477 x (mixV s.1 1103515245 x s.2.1))
def lst4 (s : M4) : List Int := [s.1, s.2.1, s.2.2.1, s.2.2.2]
def bytes4 (n : Int) : List Int := [n % 256, n / 256 % 256, n / 65536 % 256, n / 16777216 % 256]
def digV (l : List Int) : M4 := (List.replicate 8 (0 : Int)).foldl eatV ((bytes4 (l.length : Int)).foldl eatV (l.foldl eatV (11, 22, 33, 44)))
def outV (s : M4) : List Int := bytes4 s.1 ++ bytes4 s.2.1 ++ bytes4 s.2.2.1 ++ bytes4 s.2.2.2
def digest (l : List Int) : List Int := outV (digV l)
def Fit4 (s : M4) : Prop := (0 ≤ s.1 ∧ s.1 < 2147483579) ∧ (0 ≤ s.2.1 ∧ s.2.1 < 2147483579) ∧ (0 ≤ s.2.2.1 ∧ s.2.2.1 < 2147483579) ∧ (0 ≤ s.2.2.2 ∧ s.2.2.2 < 2147483579)
def isBytes (l : List Int) : Prop := ∀ x ∈ l, 0 ≤ x ∧ x ≤ 255
theorem mixV_fit {a m x b : Int} (ha : 0 ≤ a ∧ a < 2147483579) (hm : 0 ≤ m ∧ m < 2147483579) (hx : 0 ≤ x ∧ x ≤ 255) (hb : 0 ≤ b ∧ b < 2147483579) : 0 ≤ mixV a m x b ∧ mixV a m x b < 2147483579 := by
  unfold mixV
  have h1 : 0 ≤ a * m := Int.mul_nonneg ha.1 hm.1
  have h2 : a * m ≤ 2147483579 * m := Int.mul_le_mul_of_nonneg_right (by omega) hm.1
  have h3 : 2147483579 * m ≤ 2147483579 * 2147483579 := Int.mul_le_mul_of_nonneg_left (by omega) (by omega)
  generalize a * m = p at *
  have e : wrap64 (wrap64 (wrap64 (wrap64 p + x) + 1) + b) = p + x + 1 + b := by unfold wrap64; omega
  unfold remI
  rw [e, Int.tmod_eq_emod_of_nonneg (by omega)]
  omega
theorem eatV_fit {s : M4} {x : Int} (h : Fit4 s) (hx : 0 ≤ x ∧ x ≤ 255) : Fit4 (eatV s x) := by
  obtain ⟨h1, h2, h3, h4⟩ := h
  have k1 := mixV_fit h1 (m := 1103515245) (by omega) hx h2
  exact ⟨k1, mixV_fit h2 (by omega) hx h3, mixV_fit h3 (by omega) hx h4, mixV_fit h4 (by omega) hx k1⟩
theorem fold_fit (l : List Int) : ∀ (s : M4), Fit4 s → isBytes l → Fit4 (l.foldl eatV s) := by
  induction l with
  | nil => intro s h _; exact h
  | cons x l ih => intro s h hx; exact ih _ (eatV_fit h (hx x (by simp))) (fun y hy => hx y (by simp [hy]))
theorem bytes4_bytes (n : Int) : isBytes (bytes4 n) := by
  intro x hx
  simp only [bytes4, List.mem_cons, List.not_mem_nil, or_false] at hx
  rcases hx with rfl | rfl | rfl | rfl <;> omega
theorem zeros_bytes (n : Nat) : isBytes (List.replicate n (0 : Int)) := by
  intro x hx
  obtain rfl := (List.mem_replicate.1 hx).2
  omega
theorem dig_fit (l : List Int) (h : isBytes l) : Fit4 (digV l) :=
  fold_fit _ _ (fold_fit _ _ (fold_fit _ _ ⟨by decide, by decide, by decide, by decide⟩ h) (bytes4_bytes _)) (zeros_bytes _)
theorem digest_len (l : List Int) : (digest l).length = 16 := rfl
theorem cat_bytes {a b : List Int} (ha : isBytes a) (hb : isBytes b) : isBytes (a ++ b) := fun x hx => by
  rcases List.mem_append.1 hx with h | h
  · exact ha x h
  · exact hb x h
theorem digest_bytes (l : List Int) : isBytes (digest l) := cat_bytes (cat_bytes (cat_bytes (bytes4_bytes _) (bytes4_bytes _)) (bytes4_bytes _)) (bytes4_bytes _)
/-! numbers as bytes -/
theorem wr_u8 (x : Int) : wr .u8 x = x % 256 := IntKind.wrap_u8 x
theorem shr_div (n : Int) (k : Nat) (hk : k ≤ 64) : shrI .i64 n (k : Int) = n / 2 ^ k := by
  unfold shrI
  rw [Int.toNat_natCast, Nat.min_eq_left (show k ≤ IntKind.i64.bits from hk)]
  exact Int.fdiv_eq_ediv_of_nonneg _ (Int.le_of_lt (Int.pow_pos (by decide)))
theorem impl_bytes_ev (n : Int) : Ev (fun K _ => impl_ybytes_m.f K n) (bytes4 n, ()) := by
  refine Ev.fn (fun k => impl_ybytes_m.f_eq k n) (Ev.some ?_)
  have e8 : shrI .i64 n 8 = n / 256 := shr_div n 8 (by decide)
  have e16 : shrI .i64 n 16 = n / 65536 := shr_div n 16 (by decide)
  have e24 : shrI .i64 n 24 = n / 16777216 := shr_div n 24 (by decide)
  rw [e8, e16, e24, wr_u8, wr_u8, wr_u8, wr_u8]; rfl
theorem lb_step (n : Int) (i : Nat) (hi : i < 4) (y : List Int) (hy : y.length = 4) (h0 : 0 ≤ n) (h1 : n < 9223372036854775807) {r : List Int × Unit} (k : Ev (fun K j => spec_l2Bytes_m.l8 K j (n / 256) 4 ((i + 1 : Nat) : Int) (y.set i (n % 256))) r) :
    Ev (fun K j => spec_l2Bytes_m.l8 K j n 4 (i : Int) y) r := by
  refine Ev.lp (fun K j => spec_l2Bytes_m.l8_eq K j n 4 i y) (Ev.yes (by omega) (Ev.yes (by omega) (Ev.bind (Ev.now _) ?_)))
  have e1 : wrap64 (quoI n 256) = n / 256 := by
    unfold quoI
    rw [Int.tdiv_eq_ediv_of_nonneg h0]
    exact wrap_id (by omega) (by omega)
  have e2 : put y (i : Int) (wr .u8 (remI n 256)) = y.set i (n % 256) := by
    unfold put remI
    rw [Int.toNat_natCast, wr_u8, Int.tmod_eq_emod_of_nonneg h0, Int.emod_emod_of_dvd n (Int.dvd_refl 256)]
  rw [e1, e2, wrap_nat (by omega)]
  exact k
theorem spec_bytes_ev (n : Int) (h0 : 0 ≤ n) (h1 : n < 9223372036854775807) : Ev (fun K _ => spec_l2Bytes_m.f K n) (bytes4 n, ()) := by
  refine Ev.fn (fun k => spec_l2Bytes_m.f_eq k n) (Ev.yes (by omega) (Ev.diag (L := fun K j => spec_l2Bytes_m.l8 K j n 4 ((0 : Nat) : Int) [0, 0, 0, 0]) ?_))
  refine lb_step n 0 (by omega) _ rfl h0 h1 (lb_step _ 1 (by omega) _ rfl (by omega) (by omega) (lb_step _ 2 (by omega) _ rfl (by omega) (by omega) (lb_step _ 3 (by omega) _ rfl (by omega) (by omega) ?_)))
  refine Ev.lp (fun K j => spec_l2Bytes_m.l8_eq K j _ 4 _ _) (Ev.no (by omega) (Ev.some ?_))
  show ([n % 256, n / 256 % 256, n / 256 / 256 % 256, n / 256 / 256 / 256 % 256], ()) = _
  unfold bytes4
  rw [show n / 256 / 256 = n / 65536 by omega, show n / 65536 / 256 = n / 16777216 by omega]
/-! a byte taken in -/
theorem rem1 : remI (wrap64 (0 + 1)) 4 = 1 := by kernel_rfl
theorem rem2 : remI (wrap64 (1 + 1)) 4 = 2 := by kernel_rfl
theorem rem3 : remI (wrap64 (2 + 1)) 4 = 3 := by kernel_rfl
theorem rem0 : remI (wrap64 (3 + 1)) 4 = 0 := by kernel_rfl
theorem w1 : wrap64 (0 + 1) = 1 := by kernel_rfl
theorem w2 : wrap64 (1 + 1) = 2 := by kernel_rfl
theorem w3 : wrap64 (2 + 1) = 3 := by kernel_rfl
theorem w4 : wrap64 (3 + 1) = 4 := by kernel_rfl
theorem spec_mix_ev (s : M4) (x : Int) : Ev (fun K _ => spec_l2Mix_m.f K (lst4 s) x) (lst4 (eatV s x), ()) := by
  obtain ⟨a, b, c, d⟩ := s
  refine Ev.fn (fun k => spec_l2Mix_m.f_eq k _ x) (Ev.diag (L := fun K j => spec_l2Mix_m.l5 K j x 0 [a, b, c, d] [1103515245, 69069, 1664525, 22695477]) ?_)
  refine Ev.lp (fun K j => spec_l2Mix_m.l5_eq K j x 0 _ _) ?_
  rw [rem1, w1]
  refine (Ev.yes (by decide) (Ev.yes (by simp) (Ev.yes (by simp) (Ev.yes (by simp) (Ev.yes (by simp) (Ev.bind (Ev.now _) ?_))))))
  show Ev (fun K j => spec_l2Mix_m.l5 K j x 1 [mixV a 1103515245 x b, b, c, d] [1103515245, 69069, 1664525, 22695477]) _
  refine Ev.lp (fun K j => spec_l2Mix_m.l5_eq K j x 1 _ _) ?_
  rw [rem2, w2]
  refine (Ev.yes (by decide) (Ev.yes (by simp) (Ev.yes (by simp) (Ev.yes (by simp) (Ev.yes (by simp) (Ev.bind (Ev.now _) ?_))))))
  show Ev (fun K j => spec_l2Mix_m.l5 K j x 2 [mixV a 1103515245 x b, mixV b 69069 x c, c, d] [1103515245, 69069, 1664525, 22695477]) _
  refine Ev.lp (fun K j => spec_l2Mix_m.l5_eq K j x 2 _ _) ?_
  rw [rem3, w3]
  refine (Ev.yes (by decide) (Ev.yes (by simp) (Ev.yes (by simp) (Ev.yes (by simp) (Ev.yes (by simp) (Ev.bind (Ev.now _) ?_))))))
  show Ev (fun K j => spec_l2Mix_m.l5 K j x 3 [mixV a 1103515245 x b, mixV b 69069 x c, mixV c 1664525 x d, d] [1103515245, 69069, 1664525, 22695477]) _
  refine Ev.lp (fun K j => spec_l2Mix_m.l5_eq K j x 3 _ _) ?_
  rw [rem0, w4]
  refine (Ev.yes (by decide) (Ev.yes (by simp) (Ev.yes (by simp) (Ev.yes (by simp) (Ev.yes (by simp) (Ev.bind (Ev.now _) ?_))))))
  show Ev (fun K j => spec_l2Mix_m.l5 K j x 4 (lst4 (eatV (a, b, c, d) x)) [1103515245, 69069, 1664525, 22695477]) _
  exact Ev.lp (fun K j => spec_l2Mix_m.l5_eq K j x 4 _ _) (Ev.no (by decide) (Ev.now _))
def res8 (s : M4) : Int × (Int × (Int × (Int × (Int × (Int × (Int × (Int × Unit))))))) := (s.1, s.2.1, s.2.2.1, s.2.2.2, 1103515245, 69069, 1664525, 22695477, ())
theorem impl_eat_ev (s : M4) (x : Int) : Ev (fun K _ => impl_Digest_1_m.f K s.1 s.2.1 s.2.2.1 s.2.2.2 1103515245 69069 1664525 22695477 x) (res8 (eatV s (wrap64 x))) := by
  obtain ⟨a, b, c, d⟩ := s
  refine Ev.fn (fun k => impl_Digest_1_m.f_eq k a b c d _ _ _ _ x) (Ev.diag (L := fun K j => impl_Digest_1_m.l3 K j x 0 a b c d 1103515245 69069 1664525 22695477) ?_)
  refine Ev.lp (fun K j => impl_Digest_1_m.l3_eq K j x 0 _ _ _ _ _ _ _ _) ?_
  rw [rem1, w1]
  refine (Ev.yes (by decide) (Ev.yes (by decide) (Ev.yes (by decide) (Ev.no (by decide) (Ev.yes (by decide) (Ev.yes (by decide) ?_))))))
  show Ev (fun K j => impl_Digest_1_m.l3 K j x 1 (mixV a 1103515245 (wrap64 x) b) b c d 1103515245 69069 1664525 22695477) _
  refine Ev.lp (fun K j => impl_Digest_1_m.l3_eq K j x 1 _ _ _ _ _ _ _ _) ?_
  rw [rem2, w2]
  refine (Ev.yes (by decide) (Ev.no (by decide) (Ev.yes (by decide) (Ev.no (by decide) (Ev.yes (by decide) (Ev.no (by decide) (Ev.no (by decide) (Ev.yes (by decide) (Ev.no (by decide) (Ev.yes (by decide) ?_))))))))))
  show Ev (fun K j => impl_Digest_1_m.l3 K j x 2 (mixV a 1103515245 (wrap64 x) b) (mixV b 69069 (wrap64 x) c) c d 1103515245 69069 1664525 22695477) _
  refine Ev.lp (fun K j => impl_Digest_1_m.l3_eq K j x 2 _ _ _ _ _ _ _ _) ?_
  rw [rem3, w3]
  refine (Ev.yes (by decide) (Ev.no (by decide) (Ev.no (by decide) (Ev.yes (by decide) (Ev.no (by decide) (Ev.no (by decide) (Ev.yes (by decide) (Ev.no (by decide) (Ev.no (by decide) (Ev.no (by decide) (Ev.yes (by decide) (Ev.no (by decide) (Ev.no (by decide) (Ev.yes (by decide) ?_))))))))))))))
  show Ev (fun K j => impl_Digest_1_m.l3 K j x 3 (mixV a 1103515245 (wrap64 x) b) (mixV b 69069 (wrap64 x) c) (mixV c 1664525 (wrap64 x) d) d 1103515245 69069 1664525 22695477) _
  refine Ev.lp (fun K j => impl_Digest_1_m.l3_eq K j x 3 _ _ _ _ _ _ _ _) ?_
  rw [rem0, w4]
  refine (Ev.yes (by decide) (Ev.no (by decide) (Ev.no (by decide) (Ev.no (by decide) (Ev.yes (by decide) (Ev.no (by decide) (Ev.no (by decide) (Ev.no (by decide) (Ev.yes (by decide) (Ev.yes (by decide) (Ev.no (by decide) (Ev.no (by decide) (Ev.no (by decide) (Ev.yes (by decide) ?_))))))))))))))
  show Ev (fun K j => impl_Digest_1_m.l3 K j x 4 (mixV a 1103515245 (wrap64 x) b) (mixV b 69069 (wrap64 x) c) (mixV c 1664525 (wrap64 x) d) (mixV d 22695477 (wrap64 x) (mixV a 1103515245 (wrap64 x) b)) 1103515245 69069 1664525 22695477) _
  exact Ev.lp (fun K j => impl_Digest_1_m.l3_eq K j x 4 _ _ _ _ _ _ _ _) (Ev.no (by decide) (Ev.now _))
/-! the digests -/
theorem wrap_byte {x : Int} (h : 0 ≤ x ∧ x ≤ 255) : wrap64 x = x := wrap_id (by omega) (by omega)
theorem impl_l71 (s : M4) : Ev (fun K j => impl_Digest_m.l71 K j s.1 s.2.1 s.2.2.1 s.2.2.2 0 []) (outV s, ()) := by
  obtain ⟨a, b, c, d⟩ := s
  refine Ev.lp (fun K j => impl_Digest_m.l71_eq K j a b c d 0 []) ?_
  rw [w1]
  refine Ev.yes (by decide) (Ev.yes (by decide) (Ev.bind (impl_bytes_ev a) (Ev.yes (by show 0 + 4 ≤ most 1; decide) ?_)))
  show Ev (fun K j => impl_Digest_m.l71 K j a b c d 1 (bytes4 a)) _
  refine Ev.lp (fun K j => impl_Digest_m.l71_eq K j a b c d 1 _) ?_
  rw [w2]
  refine Ev.yes (by decide) (Ev.no (by decide) (Ev.yes (by decide) (Ev.bind (impl_bytes_ev b) (Ev.yes (by show 4 + 4 ≤ most 1; decide) ?_))))
  show Ev (fun K j => impl_Digest_m.l71 K j a b c d 2 (bytes4 a ++ bytes4 b)) _
  refine Ev.lp (fun K j => impl_Digest_m.l71_eq K j a b c d 2 _) ?_
  rw [w3]
  refine Ev.yes (by decide) (Ev.no (by decide) (Ev.no (by decide) (Ev.yes (by decide) (Ev.bind (impl_bytes_ev c) (Ev.yes (by show 8 + 4 ≤ most 1; decide) ?_)))))
  show Ev (fun K j => impl_Digest_m.l71 K j a b c d 3 (bytes4 a ++ bytes4 b ++ bytes4 c)) _
  refine Ev.lp (fun K j => impl_Digest_m.l71_eq K j a b c d 3 _) ?_
  rw [w4]
  refine Ev.yes (by decide) (Ev.no (by decide) (Ev.no (by decide) (Ev.no (by decide) (Ev.yes (by decide) (Ev.bind (impl_bytes_ev d) (Ev.yes (by show 12 + 4 ≤ most 1; decide) ?_))))))
  show Ev (fun K j => impl_Digest_m.l71 K j a b c d 4 (outV (a, b, c, d))) _
  exact Ev.lp (fun K j => impl_Digest_m.l71_eq K j a b c d 4 _) (Ev.no (by decide) (Ev.now _))
theorem impl_l54 : ∀ (d i : Nat) (s : M4), 8 = i + d → Ev (fun K j => impl_Digest_m.l54 K j (i : Int) s.1 s.2.1 s.2.2.1 s.2.2.2 1103515245 69069 1664525 22695477) (outV ((List.replicate d (0 : Int)).foldl eatV s), ()) := by
  intro d
  induction d with
  | zero =>
    intro i s h
    exact Ev.lp (fun K j => impl_Digest_m.l54_eq K j _ _ _ _ _ _ _ _ _) (Ev.no (by omega) (impl_l71 s))
  | succ d ih =>
    intro i s h
    refine Ev.lp (fun K j => impl_Digest_m.l54_eq K j _ _ _ _ _ _ _ _ _) (Ev.yes (by omega) (Ev.bind (impl_eat_ev s 0) ?_))
    rw [wrap_nat (by omega), show wrap64 0 = 0 by kernel_rfl]
    exact ih (i + 1) (eatV s 0) (by omega)
theorem impl_l37 (l : List Int) (hl : l.length ≤ 1000000) (hb : isBytes l) : ∀ (d i : Nat) (s : M4), l.length = i + d →
    Ev (fun K j => impl_Digest_m.l37 K j (l.length : Int) (i : Int) s.1 s.2.1 s.2.2.1 s.2.2.2 1103515245 69069 1664525 22695477 l) (outV ((List.replicate 8 (0 : Int)).foldl eatV ((l.drop i).foldl eatV s)), ()) := by
  intro d
  induction d with
  | zero =>
    intro i s h
    rw [List.drop_eq_nil_of_le (by omega)]
    exact Ev.lp (fun K j => impl_Digest_m.l37_eq K j _ _ _ _ _ _ _ _ _ _ _) (Ev.no (by omega) (impl_l54 8 0 s rfl))
  | succ d ih =>
    intro i s h
    refine Ev.lp (fun K j => impl_Digest_m.l37_eq K j _ _ _ _ _ _ _ _ _ _ _) (Ev.yes (by omega) (Ev.yes (by omega) (Ev.bind (impl_eat_ev s _) ?_)))
    rw [rd_at 0 l i (by omega), wrap_nat (by omega), wrap_byte (hb _ (List.getElem_mem _)), List.drop_eq_getElem_cons (show i < l.length by omega)]
    exact ih (i + 1) (eatV s l[i]) (by omega)
theorem impl_l20 (l : List Int) (hl : l.length ≤ 1000000) (hb : isBytes l) : ∀ (d i : Nat) (s : M4), l.length = i + d →
    Ev (fun K j => impl_Digest_m.l20 K j l l (l.length : Int) (i : Int) s.1 s.2.1 s.2.2.1 s.2.2.2 1103515245 69069 1664525 22695477) (outV ((List.replicate 8 (0 : Int)).foldl eatV ((bytes4 (l.length : Int)).foldl eatV ((l.drop i).foldl eatV s))), ()) := by
  intro d
  induction d with
  | zero =>
    intro i s h
    rw [List.drop_eq_nil_of_le (by omega)]
    exact Ev.lp (fun K j => impl_Digest_m.l20_eq K j _ _ _ _ _ _ _ _ _ _ _ _) (Ev.no (by omega) (Ev.bind (impl_bytes_ev _) (impl_l37 (bytes4 (l.length : Int)) (by simp [bytes4]) (bytes4_bytes _) 4 0 s rfl)))
  | succ d ih =>
    intro i s h
    refine Ev.lp (fun K j => impl_Digest_m.l20_eq K j _ _ _ _ _ _ _ _ _ _ _ _) (Ev.yes (by omega) (Ev.yes (by omega) (Ev.bind (impl_eat_ev s _) ?_)))
    rw [rd_at 0 l i (by omega), wrap_nat (by omega), wrap_byte (hb _ (List.getElem_mem _)), List.drop_eq_getElem_cons (show i < l.length by omega)]
    exact ih (i + 1) (eatV s l[i]) (by omega)
theorem impl_digest_ev (l : List Int) (hl : l.length ≤ 20000) (hb : isBytes l) : Ev (fun K _ => impl_Digest_m.f K l) (digest l, ()) :=
  Ev.fn (fun k => impl_Digest_m.f_eq k l) (Ev.no (by omega) (Ev.diag (L := fun K j => impl_Digest_m.l20 K j l l (l.length : Int) ((0 : Nat) : Int) 11 22 33 44 1103515245 69069 1664525 22695477) (impl_l20 l (by omega) hb l.length 0 (11, 22, 33, 44) (by omega))))
theorem spec_l59 (s : M4) (h : Fit4 s) : Ev (fun K j => spec_l2Digest_m.l59 K j ((lst4 s).length : Int) 0 [] (lst4 s)) (outV s, ()) := by
  obtain ⟨a, b, c, d⟩ := s
  obtain ⟨h1, h2, h3, h4⟩ := h
  have h2 : 0 ≤ b ∧ b < 2147483579 := h2
  have h3 : 0 ≤ c ∧ c < 2147483579 := h3
  have h4 : 0 ≤ d ∧ d < 2147483579 := h4
  show Ev (fun K j => spec_l2Digest_m.l59 K j 4 0 [] [a, b, c, d]) _
  refine Ev.lp (fun K j => spec_l2Digest_m.l59_eq K j 4 0 [] _) ?_
  rw [w1]
  refine Ev.yes (by decide) (Ev.yes (by simp) (Ev.bind (spec_bytes_ev a (by omega) (by omega)) (Ev.yes (by show 0 + 4 ≤ most 1; decide) ?_)))
  show Ev (fun K j => spec_l2Digest_m.l59 K j 4 1 (bytes4 a) [a, b, c, d]) _
  refine Ev.lp (fun K j => spec_l2Digest_m.l59_eq K j 4 1 _ _) ?_
  rw [w2]
  refine Ev.yes (by decide) (Ev.yes (by simp) (Ev.bind (spec_bytes_ev b (by omega) (by omega)) (Ev.yes (by show 4 + 4 ≤ most 1; decide) ?_)))
  show Ev (fun K j => spec_l2Digest_m.l59 K j 4 2 (bytes4 a ++ bytes4 b) [a, b, c, d]) _
  refine Ev.lp (fun K j => spec_l2Digest_m.l59_eq K j 4 2 _ _) ?_
  rw [w3]
  refine Ev.yes (by decide) (Ev.yes (by simp) (Ev.bind (spec_bytes_ev c (by omega) (by omega)) (Ev.yes (by show 8 + 4 ≤ most 1; decide) ?_)))
  show Ev (fun K j => spec_l2Digest_m.l59 K j 4 3 (bytes4 a ++ bytes4 b ++ bytes4 c) [a, b, c, d]) _
  refine Ev.lp (fun K j => spec_l2Digest_m.l59_eq K j 4 3 _ _) ?_
  rw [w4]
  refine Ev.yes (by decide) (Ev.yes (by simp) (Ev.bind (spec_bytes_ev d (by omega) (by omega)) (Ev.yes (by show 12 + 4 ≤ most 1; decide) ?_)))
  show Ev (fun K j => spec_l2Digest_m.l59 K j 4 4 (outV (a, b, c, d)) [a, b, c, d]) _
  exact Ev.lp (fun K j => spec_l2Digest_m.l59_eq K j 4 4 _ _) (Ev.no (by decide) (Ev.now _))
theorem spec_l42 : ∀ (d i : Nat) (s : M4), 8 = i + d → Fit4 s → Ev (fun K j => spec_l2Digest_m.l42 K j (i : Int) (lst4 s)) (outV ((List.replicate d (0 : Int)).foldl eatV s), ()) := by
  intro d
  induction d with
  | zero =>
    intro i s h hs
    exact Ev.lp (fun K j => spec_l2Digest_m.l42_eq K j _ _) (Ev.no (by omega) (spec_l59 s hs))
  | succ d ih =>
    intro i s h hs
    refine Ev.lp (fun K j => spec_l2Digest_m.l42_eq K j _ _) (Ev.yes (by omega) (Ev.bind (spec_mix_ev s 0) ?_))
    rw [wrap_nat (by omega)]
    exact ih (i + 1) (eatV s 0) (by omega) (eatV_fit hs (by omega))
theorem spec_l25 (l : List Int) (hl : l.length ≤ 1000000) (hb : isBytes l) : ∀ (d i : Nat) (s : M4), l.length = i + d → Fit4 s →
    Ev (fun K j => spec_l2Digest_m.l25 K j (l.length : Int) (i : Int) (lst4 s) l) (outV ((List.replicate 8 (0 : Int)).foldl eatV ((l.drop i).foldl eatV s)), ()) := by
  intro d
  induction d with
  | zero =>
    intro i s h hs
    rw [List.drop_eq_nil_of_le (by omega)]
    exact Ev.lp (fun K j => spec_l2Digest_m.l25_eq K j _ _ _ _) (Ev.no (by omega) (spec_l42 8 0 s rfl hs))
  | succ d ih =>
    intro i s h hs
    refine Ev.lp (fun K j => spec_l2Digest_m.l25_eq K j _ _ _ _) (Ev.yes (by omega) (Ev.yes (by omega) (Ev.bind (spec_mix_ev s _) ?_)))
    rw [rd_at 0 l i (by omega), wrap_nat (by omega), wrap_byte (hb _ (List.getElem_mem _)), List.drop_eq_getElem_cons (show i < l.length by omega)]
    exact ih (i + 1) (eatV s l[i]) (by omega) (eatV_fit hs (hb _ (List.getElem_mem _)))
theorem spec_l8 (l : List Int) (hl : l.length ≤ 1000000) (hb : isBytes l) : ∀ (d i : Nat) (s : M4), l.length = i + d → Fit4 s →
    Ev (fun K j => spec_l2Digest_m.l8 K j l l (l.length : Int) (i : Int) (lst4 s)) (outV ((List.replicate 8 (0 : Int)).foldl eatV ((bytes4 (l.length : Int)).foldl eatV ((l.drop i).foldl eatV s))), ()) := by
  intro d
  induction d with
  | zero =>
    intro i s h hs
    rw [List.drop_eq_nil_of_le (by omega)]
    exact Ev.lp (fun K j => spec_l2Digest_m.l8_eq K j _ _ _ _ _) (Ev.no (by omega) (Ev.bind (spec_bytes_ev _ (by omega) (by omega)) (spec_l25 (bytes4 (l.length : Int)) (by simp [bytes4]) (bytes4_bytes _) 4 0 s rfl hs)))
  | succ d ih =>
    intro i s h hs
    refine Ev.lp (fun K j => spec_l2Digest_m.l8_eq K j _ _ _ _ _) (Ev.yes (by omega) (Ev.yes (by omega) (Ev.bind (spec_mix_ev s _) ?_)))
    rw [rd_at 0 l i (by omega), wrap_nat (by omega), wrap_byte (hb _ (List.getElem_mem _)), List.drop_eq_getElem_cons (show i < l.length by omega)]
    exact ih (i + 1) (eatV s l[i]) (by omega) (eatV_fit hs (hb _ (List.getElem_mem _)))
theorem spec_digest_ev (l : List Int) (hl : l.length ≤ 1000000) (hb : isBytes l) : Ev (fun K _ => spec_l2Digest_m.f K l) (digest l, ()) :=
  Ev.fn (fun k => spec_l2Digest_m.f_eq k l) (Ev.diag (L := fun K j => spec_l2Digest_m.l8 K j l l (l.length : Int) ((0 : Nat) : Int) [11, 22, 33, 44]) (spec_l8 l (by omega) hb l.length 0 (11, 22, 33, 44) (by omega) ⟨by decide, by decide, by decide, by decide⟩))
/-! the sums of two -/
def macV (a b : List Int) : List Int := digest (digest a ++ digest b)
theorem macV_len (a b : List Int) : (macV a b).length = 16 := rfl
theorem macV_bytes (a b : List Int) : isBytes (macV a b) := digest_bytes _
theorem impl_mac_ev (a b : List Int) (ha : a.length ≤ 20000) (hb : b.length ≤ 20000) (ba : isBytes a) (bb : isBytes b) : Ev (fun K _ => impl_Mac_m.f K a b) (macV a b, ()) :=
  Ev.fn (fun k => impl_Mac_m.f_eq k a b) (Ev.no (by omega) (Ev.no (by omega) (Ev.bind (impl_digest_ev a ha ba) (Ev.bind (impl_digest_ev b hb bb) (Ev.yes (by show 16 + 16 ≤ most 1; decide) (Ev.tail (impl_digest_ev (digest a ++ digest b) (by rw [List.length_append]; show 16 + 16 ≤ _; omega) (cat_bytes (digest_bytes a) (digest_bytes b)))))))))
theorem spec_two_ev (a b : List Int) (ha : a.length = 16) (hb : b.length = 16) (ba : isBytes a) (bb : isBytes b) : Ev (fun K _ => spec_l2Two_m.f K a b) (digest (a ++ b), ()) :=
  Ev.fn (fun k => spec_l2Two_m.f_eq k a b) (Ev.yes (by rw [ha]; decide) (Ev.yes (by rw [ha, hb]; decide) (Ev.tail (spec_digest_ev (a ++ b) (by rw [List.length_append]; omega) (cat_bytes ba bb)))))
theorem spec_mac_ev (a b : List Int) (ha : a.length ≤ 20000) (hb : b.length ≤ 20000) (ba : isBytes a) (bb : isBytes b) : Ev (fun K _ => spec_l2Mac_m.f K a b) (macV a b, ()) :=
  Ev.fn (fun k => spec_l2Mac_m.f_eq k a b) (Ev.bind (spec_digest_ev a (by omega) ba) (Ev.bind (spec_digest_ev b (by omega) bb) (Ev.tail (spec_two_ev _ _ rfl rfl (digest_bytes a) (digest_bytes b)))))

open Arm
/-! ### Armor -/
theorem rdI_nat (l : List Int) (i : Nat) (h : i < l.length) : rdI l (i : Int) = l[i] := by
  unfold rdI
  rw [Int.toNat_natCast, List.getD_eq_getElem?_getD, List.getElem?_eq_getElem h]; rfl
theorem rd_rdI (l : List Int) (i : Int) : rd (0 : Int) l i = rdI l i := rfl
/-! ### bits of whole numbers -/
theorem wraps_i64 (n : Int) (h₀ : 0 ≤ n) (h₁ : n < 2 ^ 63) : IntKind.i64.wrap n = n := by rw [IntKind.wrap_i64]; omega
theorem i64_mask (j : Nat) (hj : j ≤ 63) (x : Int) (h₀ : 0 ≤ x) (h₁ : x < 9223372036854775808) : Go.bits .and .i64 x (2 ^ j - 1) = x % 2 ^ j :=
  bits_mask .i64 63 (by decide) wraps_i64 j hj x h₀ (by omega)
theorem i64_and1 (x : Int) (h₀ : 0 ≤ x) (h₁ : x < 9223372036854775808) : Go.bits .and .i64 x 1 = x % 2 := i64_mask 1 (by decide) x h₀ h₁
theorem i64_join (j : Nat) (x y : Int) (hx₀ : 0 ≤ x) (hx : x % 2 ^ j = 0) (hx₁ : x < 9223372036854775808) (hy₀ : 0 ≤ y) (hy : y < 2 ^ j) (hy₁ : y < 9223372036854775808) : Go.bits .or .i64 x y = x + y :=
  bits_join .i64 63 (by decide) wraps_i64 j x y hx₀ hx (by omega) hy₀ hy (by omega)
def bitAt (l : List Int) (k : Nat) : Int := if k < 8 * l.length then rdI l ((k / 8 : Nat) : Int) / 2 ^ (7 - k % 8) % 2 else 0
def valF (f : Nat → Int) (p : Nat) : Nat → Int
  | 0 => 0
  | m + 1 => valF f p m * 2 + f (p + m)
theorem valF_add (f : Nat → Int) (p m : Nat) : ∀ n, valF f p (m + n) = valF f p m * 2 ^ n + valF f (p + m) n
  | 0 => by simp [valF]
  | n + 1 => by
    rw [← Nat.add_assoc]
    show valF f p (m + n) * 2 + f (p + (m + n)) = valF f p m * 2 ^ (n + 1) + (valF f (p + m) n * 2 + f (p + m + n))
    rw [valF_add f p m n, Int.pow_succ, Int.add_mul, Int.mul_assoc, Int.add_assoc, Nat.add_assoc]
theorem valF_range {f : Nat → Int} (hf : ∀ k, 0 ≤ f k ∧ f k ≤ 1) (p : Nat) : ∀ n, 0 ≤ valF f p n ∧ valF f p n < 2 ^ n
  | 0 => ⟨Int.le_refl _, (show (0 : Int) < 2 ^ 0 by decide)⟩
  | n + 1 => by
    have h := valF_range hf p n
    have g := hf (p + n)
    rw [Int.pow_succ]
    show 0 ≤ valF f p n * 2 + f (p + n) ∧ valF f p n * 2 + f (p + n) < 2 ^ n * 2
    omega
theorem two_pos (n : Nat) : (0 : Int) < 2 ^ n := Int.pow_pos (by decide)
theorem valF_div {f : Nat → Int} (hf : ∀ k, 0 ≤ f k ∧ f k ≤ 1) (p m n : Nat) : valF f p (m + n) / 2 ^ n = valF f p m := by
  have h := valF_range hf (p + m) n
  have g := two_pos n
  rw [valF_add, Int.add_comm, Int.add_mul_ediv_right _ _ (by omega), Int.ediv_eq_zero_of_lt h.1 h.2, Int.zero_add]
theorem valF_mod {f : Nat → Int} (hf : ∀ k, 0 ≤ f k ∧ f k ≤ 1) (p m n : Nat) : valF f p (m + n) % 2 ^ n = valF f (p + m) n := by
  have h := valF_range hf (p + m) n
  rw [valF_add, Int.add_comm, Int.add_mul_emod_self_right, Int.emod_eq_of_lt h.1 h.2]
theorem valF_none {f : Nat → Int} (p : Nat) : ∀ n, (∀ k, p ≤ k → f k = 0) → valF f p n = 0
  | 0, _ => rfl
  | n + 1, h => by
    show valF f p n * 2 + f (p + n) = 0
    rw [valF_none p n h, h _ (by omega)]; rfl
theorem bitAt_range (l : List Int) (k : Nat) : 0 ≤ bitAt l k ∧ bitAt l k ≤ 1 := by
  unfold bitAt
  split <;> omega
theorem bitAt_eq (l : List Int) (i j : Nat) (hi : i < l.length) (hj : j < 8) : bitAt l (8 * i + j) = rdI l (i : Int) / 2 ^ (7 - j) % 2 := by
  unfold bitAt
  rw [if_pos (by omega), show (8 * i + j) / 8 = i by omega, show (8 * i + j) % 8 = j by omega]
theorem valF_byte (l : List Int) (hb : ∀ x ∈ l, 0 ≤ x ∧ x ≤ 255) (i : Nat) (hi : i < l.length) : valF (bitAt l) (8 * i) 8 = rdI l (i : Int) := by
  have hx : 0 ≤ rdI l (i : Int) ∧ rdI l (i : Int) ≤ 255 := by rw [rdI_nat l i hi]; exact hb _ (List.getElem_mem hi)
  simp only [valF]
  rw [bitAt_eq l i 0 hi (by omega), bitAt_eq l i 1 hi (by omega), bitAt_eq l i 2 hi (by omega), bitAt_eq l i 3 hi (by omega), bitAt_eq l i 4 hi (by omega), bitAt_eq l i 5 hi (by omega), bitAt_eq l i 6 hi (by omega), bitAt_eq l i 7 hi (by omega)]
  rw [show ((2 : Int) ^ (7 - 0)) = 128 by decide, show ((2 : Int) ^ (7 - 1)) = 64 by decide, show ((2 : Int) ^ (7 - 2)) = 32 by decide, show ((2 : Int) ^ (7 - 3)) = 16 by decide, show ((2 : Int) ^ (7 - 4)) = 8 by decide, show ((2 : Int) ^ (7 - 5)) = 4 by decide, show ((2 : Int) ^ (7 - 6)) = 2 by decide, show ((2 : Int) ^ (7 - 7)) = 1 by decide]
  omega
def chN (n : Int) : UInt8 := yarm.data.getD n.toNat 0
theorem chB_eq (x : Int) (h0 : 0 ≤ x) (h1 : x < 9223372036854775808) : chB x = chN (x % 32) := by
  have e : Go.bits .and .i64 x 31 = x % 32 := i64_mask 5 (by decide) x h0 h1
  unfold chB chN
  have hlt : (x % 32).toNat < yarm.data.size := by show _ < 32; omega
  rw [← Array.getElem_eq_getD (h := hlt)]
  simp only [e]
  rfl
def outs (f : Nat → Int) (q : Nat) : List UInt8 := (List.range q).map fun j => chN (valF f (5 * j) 5)
theorem outs_succ (f : Nat → Int) (q : Nat) : outs f (q + 1) = outs f q ++ [chN (valF f (5 * q) 5)] := by
  unfold outs
  rw [List.range_succ, List.map_append]; rfl
theorem pow_small (n : Nat) (h : n ≤ 12) : (2 : Int) ^ n ≤ 4096 := by
  have : (2 : Int) ^ n ≤ 2 ^ 12 := by
    have z := Nat.pow_le_pow_right (show 0 < 2 by decide) h
    exact_mod_cast z
  exact this
theorem arF_val {f : Nat → Int} (hf : ∀ k, 0 ≤ f k ∧ f k ≤ 1) (q0 B : Nat) (hB : B ≤ 12) : ∀ (n b' q' : Nat), 5 * q' + b' = 5 * q0 + B → q0 ≤ q' → b' < 5 * n + 5 →
    arF (valF f (5 * q0) B) n (b' : Int) (outs f q') = ((((5 * q0 + B) % 5 : Nat) : Int), outs f ((5 * q0 + B) / 5)) := by
  intro n
  induction n with
  | zero =>
    intro b' q' he hq hb
    rw [arF_stop _ _ _ _ (by omega), show (5 * q0 + B) % 5 = b' by omega, show (5 * q0 + B) / 5 = q' by omega]
  | succ n ih =>
    intro b' q' he hq hb
    by_cases h5 : 5 ≤ b'
    · rw [arF_step _ _ _ _ (by omega), show ((b' : Int) - 5) = ((b' - 5 : Nat) : Int) by omega, Int.toNat_natCast, Nat.min_eq_left (by omega)]
      have eB : B = (5 * q' - 5 * q0 + 5) + (b' - 5) := by omega
      have e : valF f (5 * q0) B / 2 ^ (b' - 5) = valF f (5 * q0) (5 * q' - 5 * q0 + 5) := by
        conv => lhs; rw [eB]
        exact valF_div hf _ _ _
      have hr := valF_range hf (5 * q0) (5 * q' - 5 * q0 + 5)
      have hs := pow_small (5 * q' - 5 * q0 + 5) (by omega)
      rw [e, chB_eq _ hr.1 (by omega)]
      have m := valF_mod hf (5 * q0) (5 * q' - 5 * q0) 5
      rw [show 5 * q0 + (5 * q' - 5 * q0) = 5 * q' by omega] at m
      rw [show valF f (5 * q0) (5 * q' - 5 * q0 + 5) % 32 = valF f (5 * q') 5 from m, ← outs_succ]
      exact ih (b' - 5) (q' + 1) (by omega) (by omega) (by omega)
    · rw [arF_stop _ _ _ _ (by omega), show (5 * q0 + B) % 5 = b' by omega, show (5 * q0 + B) / 5 = q' by omega]
theorem mask_val (b : Nat) (h : b < 5) : wrap64 (wrap64 (2 ^ min ((b : Int)).toNat 64) - 1) = 2 ^ b - 1 := by
  rw [Int.toNat_natCast]
  have e : b = 0 ∨ b = 1 ∨ b = 2 ∨ b = 3 ∨ b = 4 := by omega
  rcases e with rfl | rfl | rfl | rfl | rfl <;> (unfold wrap64; decide)
theorem armor_state (l : List Int) (hb : ∀ x ∈ l, 0 ≤ x ∧ x ≤ 255) : ∀ i, i ≤ l.length → (l.take i).foldl arS ⟨0, 0, []⟩ = ⟨valF (bitAt l) (5 * (8 * i / 5)) (8 * i % 5), ((8 * i % 5 : Nat) : Int), outs (bitAt l) (8 * i / 5)⟩
  | 0, _ => rfl
  | i + 1, hi => by
    have hf := bitAt_range l
    rw [foldl_stepA l i (by omega), armor_state l hb i (by omega)]
    have hx : 0 ≤ rdI l (i : Int) ∧ rdI l (i : Int) ≤ 255 := by rw [rdI_nat l i (by omega)]; exact hb _ (List.getElem_mem (by omega))
    have hr := valF_range hf (5 * (8 * i / 5)) (8 * i % 5)
    have hs := pow_small (8 * i % 5) (by omega)
    have V : Go.bits .or .i64 (wrap64 (valF (bitAt l) (5 * (8 * i / 5)) (8 * i % 5) * 256)) (wrap64 (rdI l (i : Int))) = valF (bitAt l) (5 * (8 * i / 5)) (8 * i % 5 + 8) := by
      rw [wrap_id (by omega) (by omega), wrap_id (by omega) (by omega), i64_join 8 _ _ (by omega) (by omega) (by omega) (by omega) (by omega) (by omega), valF_add, show 5 * (8 * i / 5) + 8 * i % 5 = 8 * i by omega, valF_byte l hb i (by omega)]
      rfl
    have A := arF_val hf (8 * i / 5) (8 * i % 5 + 8) (by omega) 3 (8 * i % 5 + 8) (8 * i / 5) rfl (Nat.le_refl _) (by omega)
    rw [show 5 * (8 * i / 5) + (8 * i % 5 + 8) = 8 * (i + 1) by omega] at A
    simp only [arS]
    rw [V, show (((8 * i % 5 : Nat) : Int) + 8) = ((8 * i % 5 + 8 : Nat) : Int) by omega, A]
    simp only []
    rw [mask_val _ (by omega)]
    have hr2 := valF_range hf (5 * (8 * i / 5)) (8 * i % 5 + 8)
    have hs2 := pow_small (8 * i % 5 + 8) (by omega)
    rw [i64_mask (8 * (i + 1) % 5) (by omega) _ hr2.1 (by omega)]
    have m := valF_mod hf (5 * (8 * i / 5)) (8 * i % 5 + 8 - 8 * (i + 1) % 5) (8 * (i + 1) % 5)
    rw [show 8 * i % 5 + 8 - 8 * (i + 1) % 5 + 8 * (i + 1) % 5 = 8 * i % 5 + 8 by omega, show 5 * (8 * i / 5) + (8 * i % 5 + 8 - 8 * (i + 1) % 5) = 5 * (8 * (i + 1) / 5) by omega] at m
    rw [m]
theorem armorL_eq (l : List Int) (hb : ∀ x ∈ l, 0 ≤ x ∧ x ≤ 255) : armorL l = outs (bitAt l) ((8 * l.length + 4) / 5) := by
  have hf := bitAt_range l
  have S := armor_state l hb l.length (Nat.le_refl _)
  rw [List.take_length] at S
  unfold armorL
  rw [S]
  simp only []
  by_cases hp : ((8 * l.length % 5 : Nat) : Int) > 0
  · rw [if_pos hp, show (5 - ((8 * l.length % 5 : Nat) : Int)) = ((5 - 8 * l.length % 5 : Nat) : Int) by omega, Int.toNat_natCast, Nat.min_eq_left (by omega)]
    have e := valF_add (bitAt l) (5 * (8 * l.length / 5)) (8 * l.length % 5) (5 - 8 * l.length % 5)
    rw [show 5 * (8 * l.length / 5) + 8 * l.length % 5 = 8 * l.length by omega, valF_none (8 * l.length) _ (fun k hk => by unfold bitAt; rw [if_neg (by omega)]), Int.add_zero, show 8 * l.length % 5 + (5 - 8 * l.length % 5) = 5 by omega] at e
    have hr := valF_range hf (5 * (8 * l.length / 5)) 5
    rw [show ((2 : Int) ^ 5) = 32 by decide] at hr
    rw [← e, wrap_id (by omega) (by omega), chB_eq _ hr.1 (by omega), Int.emod_eq_of_lt hr.1 hr.2, ← outs_succ, show 8 * l.length / 5 + 1 = (8 * l.length + 4) / 5 by omega]
  · rw [if_neg hp, show 8 * l.length / 5 = (8 * l.length + 4) / 5 by omega]
/-! the reference's -/
def letters : ByteArray := ⟨#[48, 49, 50, 51, 52, 53, 54, 55, 56, 57, 97, 98, 99, 100, 101, 102, 103, 104, 105, 106, 107, 108, 109, 110, 111, 112, 113, 114, 115, 116, 117, 118]⟩
def outN (f : Nat → Int) (q : Nat) : List Int := (List.range q).map fun j => bt letters (valF f (5 * j) 5)
theorem outN_succ (f : Nat → Int) (q : Nat) : outN f (q + 1) = outN f q ++ [bt letters (valF f (5 * q) 5)] := by
  unfold outN
  rw [List.range_succ, List.map_append]; rfl
theorem letter_eq : ∀ n : Fin 32, UInt8.ofNat (bt letters ((n.val : Nat) : Int)).toNat = chN ((n.val : Nat) : Int) := by decide
theorem str_eq {f : Nat → Int} (hf : ∀ k, 0 ≤ f k ∧ f k ≤ 1) (q : Nat) : utfB (outN f q) = ⟨(outs f q).toArray⟩ := by
  unfold utfB outN outs
  rw [List.map_map]
  congr 2
  refine List.map_congr_left fun j _ => ?_
  have hr := valF_range hf (5 * j) 5
  rw [show ((2 : Int) ^ 5) = 32 by decide] at hr
  have z := letter_eq ⟨(valF f (5 * j) 5).toNat, by omega⟩
  rw [show (((valF f (5 * j) 5).toNat : Nat) : Int) = valF f (5 * j) 5 by omega] at z
  exact z
theorem wr_u64 (i : Nat) (h : i < 9000000000000000000) : wr .u64 (i : Int) = (i : Int) := by
  show IntKind.u64.wrap (i : Int) = _
  simp [IntKind.wrap, IntKind.bits, IntKind.signed]; omega
theorem bits_and1 (x : Int) (h0 : 0 ≤ x) (h1 : x < 9223372036854775808) : Go.bits .and .i64 x 1 = x % 2 := i64_mask 1 (by decide) x h0 h1
theorem spec_a23 (l : List Int) (hl : l.length ≤ 20000) (hb : isBytes l) (y : List Int) (j : Nat) (h3 : y.length ≤ 100000) (hj : 5 * j < 8 * l.length) {r : ByteArray}
    (go : Ev (fun K t => spec_l2Armor.l8 K t l ((5 * (j + 1) : Nat) : Int) (y ++ [bt letters (valF (bitAt l) (5 * j) 5)])) r) :
    ∀ (d m : Nat), 5 = m + d → Ev (fun K t => spec_l2Armor.l23 K t l ((5 * j : Nat) : Int) (valF (bitAt l) (5 * j) m) ((5 * j + m : Nat) : Int) y) r := by
  have hf := bitAt_range l
  have hw : wrap64 ((l.length : Int) * 8) = ((8 * l.length : Nat) : Int) := by rw [wrap_id (by omega) (by omega)]; omega
  have hw5 : wrap64 (((5 * j : Nat) : Int) + 5) = ((5 * (j + 1) : Nat) : Int) := by rw [wrap_id (by omega) (by omega)]; omega
  intro d
  induction d with
  | zero =>
    intro m h
    obtain rfl : m = 5 := by omega
    have hr := valF_range hf (5 * j) 5
    rw [show ((2 : Int) ^ 5) = 32 by decide] at hr
    refine Ev.lp (fun K t => spec_l2Armor.l23_eq K t l _ _ _ y) ?_
    rw [hw5]
    refine Ev.no (by omega) (Ev.bind (Ev.fn (fun k => spec_l2Letters.f_eq k) (Ev.now letters)) (Ev.yes ⟨hr.1, by show _ < ((32 : Nat) : Int); omega⟩ (Ev.yes (by show y.length + 1 ≤ 17592186044416; omega) go)))
  | succ d ih =>
    intro m h
    have hr := valF_range hf (5 * j) m
    have hs := pow_small m (by omega)
    have z := ih (m + 1) (by omega)
    refine Ev.lp (fun K t => spec_l2Armor.l23_eq K t l _ _ _ y) ?_
    rw [hw5, hw, wrap_nat (by omega)]
    refine Ev.yes (by omega) (Ev.ite (fun hk => ?_) fun hk => ?_)
    · have hk : 5 * j + m < 8 * l.length := by omega
      have t1 : wrap64 (quoI ((5 * j + m : Nat) : Int) 8) = (((5 * j + m) / 8 : Nat) : Int) := by
        unfold quoI
        rw [Int.tdiv_eq_ediv_of_nonneg (by omega), wrap_id (by omega) (by omega)]; omega
      have t2 : wr .u64 (wrap64 (7 - remI ((5 * j + m : Nat) : Int) 8)) = ((7 - (5 * j + m) % 8 : Nat) : Int) := by
        unfold remI
        rw [Int.tmod_eq_emod_of_nonneg (by omega), wrap_id (by omega) (by omega), show (7 - ((5 * j + m : Nat) : Int) % 8) = ((7 - (5 * j + m) % 8 : Nat) : Int) by omega, wr_u64 _ (by omega)]
      have hx : 0 ≤ rdI l (((5 * j + m) / 8 : Nat) : Int) ∧ rdI l (((5 * j + m) / 8 : Nat) : Int) ≤ 255 := by rw [rdI_nat l _ (by omega)]; exact hb _ (List.getElem_mem (by omega))
      have hd : 0 ≤ rdI l (((5 * j + m) / 8 : Nat) : Int) / 2 ^ (7 - (5 * j + m) % 8) ∧ rdI l (((5 * j + m) / 8 : Nat) : Int) / 2 ^ (7 - (5 * j + m) % 8) ≤ 255 :=
        ⟨Int.ediv_nonneg hx.1 (Int.le_of_lt (two_pos _)), Int.le_trans (Int.ediv_le_self _ hx.1) hx.2⟩
      rw [t1, t2, rd_rdI]
      refine Ev.yes (by omega) (Ev.no (by omega) ?_)
      rw [wrap_id (x := rdI l _) (by omega) (by omega), shr_div _ _ (by omega), bits_and1 _ hd.1 (by omega), wrap_id (x := valF _ _ _ * 2) (by omega) (by omega), wrap_id (by omega) (by omega)]
      have e : valF (bitAt l) (5 * j) m * 2 + rdI l (((5 * j + m) / 8 : Nat) : Int) / 2 ^ (7 - (5 * j + m) % 8) % 2 = valF (bitAt l) (5 * j) (m + 1) := by
        show _ = valF (bitAt l) (5 * j) m * 2 + bitAt l (5 * j + m)
        unfold bitAt
        rw [if_pos hk]
      rw [e]; exact z
    · have e : valF (bitAt l) (5 * j) m * 2 = valF (bitAt l) (5 * j) (m + 1) := by
        show _ = valF (bitAt l) (5 * j) m * 2 + bitAt l (5 * j + m)
        unfold bitAt
        rw [if_neg (by omega), Int.add_zero]
      rw [wrap_id (x := valF _ _ _ * 2) (by omega) (by omega), e]; exact z
theorem spec_a8 (l : List Int) (hl : l.length ≤ 20000) (hb : isBytes l) : ∀ (d j : Nat), (8 * l.length + 4) / 5 = j + d → Ev (fun K t => spec_l2Armor.l8 K t l ((5 * j : Nat) : Int) (outN (bitAt l) j)) (utfB (outN (bitAt l) ((8 * l.length + 4) / 5))) := by
  have hw : wrap64 ((l.length : Int) * 8) = ((8 * l.length : Nat) : Int) := by rw [wrap_id (by omega) (by omega)]; omega
  intro d
  induction d with
  | zero =>
    intro j h
    refine Ev.lp (fun K t => spec_l2Armor.l8_eq K t l _ _) ?_
    rw [hw]
    refine Ev.no (by omega) (Ev.some ?_)
    rw [show (8 * l.length + 4) / 5 = j by omega]
  | succ d ih =>
    intro j h
    refine Ev.lp (fun K t => spec_l2Armor.l8_eq K t l _ _) ?_
    rw [hw]
    refine Ev.yes (by omega) ?_
    have z := ih (j + 1) (by omega)
    rw [outN_succ] at z
    exact spec_a23 l hl hb _ j (by simp [outN]; omega) (by omega) z 5 0 rfl
theorem armor_ev (l : List Int) (hl : l.length ≤ 20000) (hb : isBytes l) : Ev (fun K _ => spec_l2Armor.f K l) (armorS l) ∧ Ev (fun K _ => impl_Armor.f K l) (armorS l) := by
  constructor
  · have e : armorS l = utfB (outN (bitAt l) ((8 * l.length + 4) / 5)) := by
      unfold armorS
      rw [armorL_eq l hb, str_eq (bitAt_range l)]
    rw [e]
    exact Ev.fn (fun k => spec_l2Armor.f_eq k l) (Ev.diag (L := fun K t => spec_l2Armor.l8 K t l ((5 * 0 : Nat) : Int) (outN (bitAt l) 0)) (spec_a8 l hl hb ((8 * l.length + 4) / 5) 0 (by omega)))
  · exact Ev.fn (fun k => impl_Armor.f_eq k l) (Ev.yes hl (Ev.now _))

/-! ### a whole number's text -/
theorem appS_mk (a b : List UInt8) : appS ⟨a.toArray⟩ ⟨b.toArray⟩ = ⟨(a ++ b).toArray⟩ := by
  unfold appS
  apply ByteArray.ext
  simp
theorem appS_size (a b : ByteArray) : (appS a b).size = a.size + b.size := by
  unfold appS
  exact ByteArray.size_append
theorem dec_step (u : Nat) (h : ¬ u < 10) : Go.Lib.decDigits u = Go.Lib.decDigits (u / 10) ++ [UInt8.ofNat (48 + u % 10)] := by
  rw [Go.Lib.decDigits, dif_neg h]
theorem dec_len : ∀ (k u : Nat), u < 10 ^ (k + 1) → (Go.Lib.decDigits u).length ≤ k + 1
  | 0, u, h => by rw [Go.Lib.decDigits_one (by simpa using h)]; simp
  | k + 1, u, h => by
    by_cases hu : u < 10
    · rw [Go.Lib.decDigits_one hu]; simp
    · rw [dec_step u hu, List.length_append]
      have := dec_len k (u / 10) (by
        rw [Nat.pow_succ] at h
        exact Nat.div_lt_of_lt_mul (by rw [Nat.mul_comm]; exact h))
      simp; omega
theorem itoaS_nat (u : Nat) : itoaS (u : Int) = ⟨(Go.Lib.decDigits u).toArray⟩ := by
  unfold itoaS Go.Lib.itoa
  rw [if_neg (by omega)]; simp
def numD (u : Nat) : List UInt8 := if u = 0 then [] else Go.Lib.decDigits u
theorem numD_step (u : Nat) (h : u ≠ 0) : numD u = numD (u / 10) ++ [UInt8.ofNat (48 + u % 10)] := by
  unfold numD
  rw [if_neg h]
  by_cases hu : u < 10
  · rw [if_pos (by omega), Go.Lib.decDigits_one hu, Nat.mod_eq_of_lt hu]; rfl
  · rw [if_neg (by omega), dec_step u hu]
theorem utfB_one (n : Nat) (h : n < 256) : utfB [(n : Int)] = ⟨[UInt8.ofNat n].toArray⟩ := by
  unfold utfB
  simp
theorem pow_down {u k : Nat} (h : u < 10 ^ (k + 1)) : u / 10 < 10 ^ k := by
  rw [Nat.pow_succ] at h
  exact Nat.div_lt_of_lt_mul (by rw [Nat.mul_comm]; exact h)
theorem spec_l14 : ∀ (k u : Nat) (acc : List UInt8), u < 10 ^ k → u ≤ 9223372036854775807 → acc.length + k ≤ 1000 → Ev (fun K j => spec_l1Size.l14 K j (u : Int) ⟨acc.toArray⟩) ⟨(numD u ++ acc).toArray⟩ := by
  intro k
  induction k with
  | zero =>
    intro u acc h _ _
    obtain rfl : u = 0 := by simpa using h
    exact Ev.lp (fun K j => spec_l1Size.l14_eq K j _ _) (Ev.yes rfl (Ev.now _))
  | succ k ih =>
    intro u acc hk hu ha
    refine Ev.lp (fun K j => spec_l1Size.l14_eq K j _ _) ?_
    by_cases h0 : u = 0
    · subst h0
      exact Ev.yes rfl (Ev.now _)
    · have e1 : remI (u : Int) 10 = ((u % 10 : Nat) : Int) := by
        unfold remI
        rw [Int.tmod_eq_emod_of_nonneg (by omega)]; omega
      have e2 : wrap64 (quoI (u : Int) 10) = ((u / 10 : Nat) : Int) := by
        unfold quoI
        rw [Int.tdiv_eq_ediv_of_nonneg (by omega), wrap_id (by omega) (by omega)]; omega
      have e3 : wr .u8 (wrap64 (48 + ((u % 10 : Nat) : Int))) = ((48 + u % 10 : Nat) : Int) := by
        rw [wrap_id (by omega) (by omega)]
        show IntKind.u8.wrap _ = _
        rw [IntKind.wrap_u8]; omega
      rw [e1, e2, e3]
      have hsz : (utfB [((48 + u % 10 : Nat) : Int)]).size + (⟨acc.toArray⟩ : ByteArray).size ≤ lim := by
        rw [utfB_one _ (by omega)]
        show 1 + acc.length ≤ 4611686018427387904
        omega
      refine Ev.no (by omega) (Ev.no (by omega) (Ev.yes hsz ?_))
      rw [utfB_one _ (by omega), appS_mk]
      have z := ih (u / 10) ([UInt8.ofNat (48 + u % 10)] ++ acc) (pow_down hk) (by omega) (by simp; omega)
      rw [← List.append_assoc, ← numD_step u h0] at z
      exact z
/-! below 0 -/
theorem spec_l14n : ∀ (k u : Nat) (acc : List UInt8), u < 10 ^ k → u ≤ 9223372036854775808 → acc.length + k ≤ 1000 → Ev (fun K j => spec_l1Size.l14 K j (-(u : Int)) ⟨acc.toArray⟩) ⟨(numD u ++ acc).toArray⟩ := by
  intro k
  induction k with
  | zero =>
    intro u acc h _ _
    obtain rfl : u = 0 := by simpa using h
    exact Ev.lp (fun K j => spec_l1Size.l14_eq K j _ _) (Ev.yes rfl (Ev.now _))
  | succ k ih =>
    intro u acc hk hu ha
    refine Ev.lp (fun K j => spec_l1Size.l14_eq K j _ _) ?_
    by_cases h0 : u = 0
    · subst h0
      exact Ev.yes rfl (Ev.now _)
    · have e1 : remI (-(u : Int)) 10 = -((u % 10 : Nat) : Int) := by
        unfold remI
        rw [Int.neg_tmod, Int.tmod_eq_emod_of_nonneg (by omega)]; omega
      have e2 : wrap64 (quoI (-(u : Int)) 10) = -((u / 10 : Nat) : Int) := by
        unfold quoI
        rw [Int.neg_tdiv, Int.tdiv_eq_ediv_of_nonneg (by omega), wrap_id (by omega) (by omega)]; omega
      have e3 : ∀ x : Int, x = ((u % 10 : Nat) : Int) → wr .u8 (wrap64 (48 + x)) = ((48 + u % 10 : Nat) : Int) := fun x hx => by
        subst hx
        rw [wrap_id (by omega) (by omega)]
        show IntKind.u8.wrap _ = _
        rw [IntKind.wrap_u8]; omega
      have e4 : wrap64 (0 - -((u % 10 : Nat) : Int)) = ((u % 10 : Nat) : Int) := by rw [wrap_id (by omega) (by omega)]; omega
      have hsz : (utfB [((48 + u % 10 : Nat) : Int)]).size + (⟨acc.toArray⟩ : ByteArray).size ≤ lim := by
        rw [utfB_one _ (by omega)]
        show 1 + acc.length ≤ 4611686018427387904
        omega
      have z : Ev (fun K j => spec_l1Size.l14 K j (-((u / 10 : Nat) : Int)) (appS (utfB [((48 + u % 10 : Nat) : Int)]) ⟨acc.toArray⟩)) ⟨(numD u ++ acc).toArray⟩ := by
        rw [utfB_one _ (by omega), appS_mk]
        have z := ih (u / 10) ([UInt8.ofNat (48 + u % 10)] ++ acc) (pow_down hk) (by omega) (by simp; omega)
        rw [← List.append_assoc, ← numD_step u h0] at z
        exact z
      rw [e1, e2, e4]
      refine Ev.no (by omega) (Ev.ite (fun h => ?_) fun h => ?_)
      · rw [e3 _ rfl]; exact Ev.yes hsz z
      · rw [e3 _ (by omega)]; exact Ev.yes hsz z
/-- .. of every whole number -/
theorem spec_size_ev (n : Int) (h0 : -9223372036854775808 ≤ n) (h1 : n ≤ 9223372036854775807) : Ev (fun K _ => spec_l1Size.f K n) ⟨(Go.Lib.decDigits n.natAbs).toArray⟩ := by
  by_cases hn : n < 0
  · obtain ⟨u, rfl⟩ : ∃ u : Nat, n = -(u : Int) := ⟨n.natAbs, by omega⟩
    rw [Int.natAbs_neg, Int.natAbs_natCast]
    refine Ev.fn (fun k => spec_l1Size.f_eq k _) (Ev.no (by omega) ?_)
    have z := spec_l14n 19 u [] (by
      have : u ≤ 9223372036854775808 := by omega
      exact Nat.lt_of_le_of_lt this (by decide)) (by omega) (by simp)
    rw [List.append_nil] at z
    unfold numD at z
    rw [if_neg (by omega)] at z
    exact Ev.diag (L := fun K j => spec_l1Size.l14 K j (-(u : Int)) ⟨#[]⟩) z
  · obtain ⟨u, rfl⟩ : ∃ u : Nat, n = (u : Int) := ⟨n.toNat, by omega⟩
    rw [Int.natAbs_natCast]
    refine Ev.fn (fun k => spec_l1Size.f_eq k _) (Ev.ite (fun h => Ev.some ?_) fun h => ?_)
    · have : u = 0 := by omega
      subst this
      rw [Go.Lib.decDigits_one (by omega)]
      rfl
    · have z := spec_l14 19 u [] (by
        have : u ≤ 9223372036854775807 := by omega
        exact Nat.lt_of_le_of_lt this (by decide)) (by omega) (by simp)
      rw [List.append_nil] at z
      unfold numD at z
      rw [if_neg (by omega)] at z
      exact Ev.diag (L := fun K j => spec_l1Size.l14 K j (u : Int) ⟨#[]⟩) z
theorem dec_len19 (n : Nat) (h : n ≤ 9223372036854775808) : (Go.Lib.decDigits n).length ≤ 19 := dec_len 18 n (Nat.lt_of_le_of_lt h (by decide))
theorem spec_num_all (n : Int) (h0 : -9223372036854775808 ≤ n) (h1 : n ≤ 9223372036854775807) : Ev (fun K _ => spec_l1Num.f K n) (itoaS n) := by
  have z := spec_size_ev n h0 h1
  refine Ev.fn (fun k => spec_l1Num.f_eq k _) (Ev.ite (fun h => ?_) fun h => ?_)
  · have e : itoaS n = appS (⟨#[45]⟩ : ByteArray) ⟨(Go.Lib.decDigits n.natAbs).toArray⟩ := by
      unfold itoaS Go.Lib.itoa
      rw [if_pos h]
      exact (appS_mk [45] _).symm
    rw [e]
    refine Ev.bind z (Ev.yes ?_ (Ev.now _))
    have := dec_len19 n.natAbs (by omega)
    show 1 + (Go.Lib.decDigits n.natAbs).length ≤ 4611686018427387904
    omega
  · have e : itoaS n = ⟨(Go.Lib.decDigits n.natAbs).toArray⟩ := by
      unfold itoaS Go.Lib.itoa
      rw [if_neg h, show n.toNat = n.natAbs by omega]
    rw [e]
    exact Ev.tail z
theorem spec_num_ev (u : Nat) (hu : u ≤ 4000000000000000000) : Ev (fun K _ => spec_l1Num.f K (u : Int)) (itoaS (u : Int)) := spec_num_all _ (by omega) (by omega)

theorem sec_ev (a : Int) : Ev (fun K _ => spec_l2Secret.f K a) (decide (1 ≤ a ∧ a < 1073741789)) ∧ Ev (fun K _ => impl_ysecret.f K a) (decide (1 ≤ a ∧ a < 1073741789)) := by
  constructor
  · refine Ev.fn (fun k => spec_l2Secret.f_eq k a) (Ev.ite (fun h => Ev.some ?_) fun h => Ev.some ?_)
    · simp; omega
    · simp; omega
  · refine Ev.fn (fun k => impl_ysecret.f_eq k a) (Ev.ite (fun h => Ev.some ?_) fun h => Ev.some ?_)
    · simp; omega
    · simp; omega
theorem armorS_size (l : List Int) (hl : l.length = 8) (hb : isBytes l) : (armorS l).size = 13 := by
  unfold armorS
  rw [armorL_eq l hb, hl]
  show (outs (bitAt l) 13).length = 13
  simp [outs]
theorem token_ev (a0 a1 : Int) (h0 : -9223372036854775808 ≤ a1 ∧ a1 ≤ 9223372036854775807) : ∃ t, (Ev (fun K _ => spec_TokenOf.f K a0 a1) t ∧ Ev (fun K _ => impl_TokenOf.f K a0 a1) t) ∧ (t = ⟨#[]⟩ ∨ ((1 ≤ a0 ∧ a0 < 1073741789) ∧ ∃ u : Nat, a1 = (u : Int) ∧ u ≤ 1000000 ∧ ∃ A, t = appS (appS (appS (⟨#[114]⟩ : ByteArray) (itoaS (u : Int))) (⟨#[46]⟩ : ByteArray)) A)) := by
  obtain ⟨s1, s2⟩ := sec_ev a0
  by_cases hs : 1 ≤ a0 ∧ a0 < 1073741789
  · rw [decide_eq_true hs] at s1 s2
    by_cases hn : a1 < 0
    · exact ⟨_, ⟨Ev.fn (fun k => spec_TokenOf.f_eq k a0 a1) (Ev.bind s1 (Ev.yes rfl (Ev.yes hn (Ev.now _)))), Ev.fn (fun k => impl_TokenOf.f_eq k a0 a1) (Ev.bind s2 (Ev.yes rfl (Ev.yes hn (Ev.now _))))⟩, .inl rfl⟩
    by_cases hm : a1 > 1000000
    · exact ⟨_, ⟨Ev.fn (fun k => spec_TokenOf.f_eq k a0 a1) (Ev.bind s1 (Ev.yes rfl (Ev.no hn (Ev.yes hm (Ev.now _))))), Ev.fn (fun k => impl_TokenOf.f_eq k a0 a1) (Ev.bind s2 (Ev.yes rfl (Ev.no hn (Ev.yes hm (Ev.now _)))))⟩, .inl rfl⟩
    obtain ⟨u, rfl⟩ : ∃ u : Nat, a1 = (u : Int) := ⟨a1.toNat, by omega⟩
    have hz : (itoaS (u : Int)).size ≤ 7 := by
      rw [itoaS_nat]
      exact dec_len 6 u (by omega)
    have hr : (appS (⟨#[114]⟩ : ByteArray) (itoaS (u : Int))).size = 1 + (itoaS (u : Int)).size := appS_size _ _
    have hr2 : (appS (appS (⟨#[114]⟩ : ByteArray) (itoaS (u : Int))) (⟨#[46]⟩ : ByteArray)).size = 1 + (itoaS (u : Int)).size + 1 := by rw [appS_size, hr]; rfl
    have hbl : (bytesOf (appS (⟨#[114]⟩ : ByteArray) (itoaS (u : Int)))).length ≤ 20000 := by rw [bytesOf_length, hr]; omega
    have hbb : isBytes (bytesOf (appS (⟨#[114]⟩ : ByteArray) (itoaS (u : Int)))) := bytes_range _
    have hcl : (cut (macV (bytes4 a0) (bytesOf (appS (⟨#[114]⟩ : ByteArray) (itoaS (u : Int))))) 0 (0 + 8)).length = 8 := rfl
    have hcb : isBytes (cut (macV (bytes4 a0) (bytesOf (appS (⟨#[114]⟩ : ByteArray) (itoaS (u : Int))))) 0 (0 + 8)) := fun x hx => macV_bytes _ _ x (List.mem_of_mem_take (List.mem_of_mem_drop hx))
    obtain ⟨A1, A2⟩ := armor_ev _ (by rw [hcl]; omega) hcb
    have hA := armorS_size _ hcl hcb
    have c1 : (⟨#[114]⟩ : ByteArray).size + (itoaS (u : Int)).size ≤ lim := by show 1 + _ ≤ 4611686018427387904; omega
    have c2 : (appS (⟨#[114]⟩ : ByteArray) (itoaS (u : Int))).size + (⟨#[46]⟩ : ByteArray).size ≤ lim := by rw [hr]; show 1 + _ + 1 ≤ 4611686018427387904; omega
    have c3 : (appS (appS (⟨#[114]⟩ : ByteArray) (itoaS (u : Int))) (⟨#[46]⟩ : ByteArray)).size + (armorS (cut (macV (bytes4 a0) (bytesOf (appS (⟨#[114]⟩ : ByteArray) (itoaS (u : Int))))) 0 (0 + 8))).size ≤ lim := by
      rw [hr2, hA]; show 1 + _ + 1 + 13 ≤ 4611686018427387904; omega
    have hlen : (bytes4 a0).length ≤ 20000 := by show 4 ≤ 20000; omega
    refine ⟨appS (appS (appS (⟨#[114]⟩ : ByteArray) (itoaS (u : Int))) (⟨#[46]⟩ : ByteArray)) (armorS (cut (macV (bytes4 a0) (bytesOf (appS (⟨#[114]⟩ : ByteArray) (itoaS (u : Int))))) 0 (0 + 8))), ⟨?_, ?_⟩, .inr ⟨hs, u, rfl, by omega, _, rfl⟩⟩
    · refine Ev.fn (fun k => spec_TokenOf.f_eq k a0 _) (Ev.bind s1 (Ev.yes rfl (Ev.no hn (Ev.no hm (Ev.tail ?_)))))
      exact Ev.fn (fun k => spec_l7Token.f_eq k a0 _) (Ev.bind (spec_num_ev u (by omega)) (Ev.yes c1 (Ev.yes c2 (Ev.bind (spec_bytes_ev a0 (by omega) (by omega)) (Ev.bind (spec_mac_ev (bytes4 a0) _ hlen hbl (bytes4_bytes a0) hbb) (Ev.yes ⟨by omega, by omega, by show (8 : Int) ≤ ((16 : Nat) : Int); omega⟩ (Ev.bind A1 (Ev.yes c3 (Ev.now _)))))))))
    · refine Ev.fn (fun k => impl_TokenOf.f_eq k a0 _) (Ev.bind s2 (Ev.yes rfl (Ev.no hn (Ev.no hm ?_))))
      refine Ev.bind (Ev.fn (fun k => strconv_Itoa.f_eq k _) (Ev.yes ⟨by omega, by omega⟩ (Ev.now _))) (Ev.yes c1 (Ev.yes c2 ?_))
      refine Ev.bind (impl_bytes_ev a0) (Ev.bind (impl_mac_ev (bytes4 a0) _ hlen hbl (bytes4_bytes a0) hbb) ?_)
      exact Ev.yes ⟨by omega, by omega, by show (8 : Int) ≤ ((16 : Nat) : Int); omega⟩ (Ev.bind A2 (Ev.yes c3 (Ev.now _)))
  · rw [decide_eq_false hs] at s1 s2
    exact ⟨_, ⟨Ev.fn (fun k => spec_TokenOf.f_eq k a0 a1) (Ev.bind s1 (Ev.no (by decide) (Ev.now _))), Ev.fn (fun k => impl_TokenOf.f_eq k a0 a1) (Ev.bind s2 (Ev.no (by decide) (Ev.now _)))⟩, .inl rfl⟩

theorem cutS_mk (l : List UInt8) (a b : Int) : cutS ⟨l.toArray⟩ a b = ⟨((l.take b.toNat).drop a.toNat).toArray⟩ := by
  unfold cutS
  apply ByteArray.ext
  apply Array.toList_inj.1
  rw [ByteArray.data_extract]
  simp [List.drop_take]
theorem bt_mk (l : List UInt8) (i : Nat) (h : i < l.length) : bt ⟨l.toArray⟩ (i : Int) = (l[i].toNat : Int) := by
  unfold bt
  rw [dif_pos (by show i < l.toArray.size; simpa using h)]
  rfl
theorem mk_size (l : List UInt8) : (⟨l.toArray⟩ : ByteArray).size = l.length := by show l.toArray.size = _; simp
theorem cutS_le (s : ByteArray) (a b : Int) : (cutS s a b).size ≤ s.size := by unfold cutS; rw [ByteArray.size_extract]; omega
/-! up to a dot -/
theorem until_step {x : ByteArray} {i : Nat} (h : i < x.size) (hx : x.size ≤ 140737488351232) :
    (bt x i = 46 → Ev (fun K j => spec_l7Until.l6 K j x (⟨#[46]⟩ : ByteArray) (i : Int)) (cutS x 0 i, (cutS x i x.size, ()))) ∧
    (bt x i ≠ 46 → ∀ r, Ev (fun K j => spec_l7Until.l6 K j x (⟨#[46]⟩ : ByteArray) ((i + 1 : Nat) : Int)) r → Ev (fun K j => spec_l7Until.l6 K j x (⟨#[46]⟩ : ByteArray) (i : Int)) r) := by
  have b0 : bt (⟨#[46]⟩ : ByteArray) 0 = 46 := by decide
  have s1 : (⟨#[46]⟩ : ByteArray).size = 1 := rfl
  constructor
  · intro hb
    refine Ev.lp (fun K j => spec_l7Until.l6_eq K j _ _ _) (Ev.yes (by omega) (Ev.lp (fun K j => spec_l7Until.l18_eq K j _ _ _ _) (Ev.yes (by rw [s1]; omega) (Ev.yes (by omega) (Ev.yes (by rw [s1]; omega) (Ev.yes (by rw [hb, b0]) (Ev.yes (by omega) (Ev.yes (by omega) (Ev.now _)))))))))
  · intro hb r hr
    refine Ev.lp (fun K j => spec_l7Until.l6_eq K j _ _ _) (Ev.yes (by omega) (Ev.lp (fun K j => spec_l7Until.l18_eq K j _ _ _ _) (Ev.yes (by rw [s1]; omega) (Ev.yes (by omega) (Ev.yes (by rw [s1]; omega) (Ev.no (by rw [b0]; exact hb) ?_))))))
    refine Ev.lp (fun K j => spec_l7Until.l18_eq K j _ _ _ _) (Ev.no (by rw [s1, show wrap64 (0 + 1) = 1 from wrap_id (by omega) (by omega)]; omega) ?_)
    rw [wrap_nat (by omega)]
    exact hr
theorem until_ex {x : ByteArray} (hx : x.size ≤ 140737488351232) : ∃ h r, Ev (fun K _ => spec_l7Until.f K x (⟨#[46]⟩ : ByteArray)) (h, (r, ())) ∧ h.size ≤ x.size := by
  have key : ∀ d i : Nat, x.size = i + d → ∃ h r, Ev (fun K j => spec_l7Until.l6 K j x (⟨#[46]⟩ : ByteArray) (i : Int)) (h, (r, ())) ∧ h.size ≤ x.size := by
    intro d
    induction d with
    | zero => intro i hi; exact ⟨x, _, Ev.lp (fun K j => spec_l7Until.l6_eq K j _ _ _) (Ev.no (by omega) (Ev.now _)), Nat.le_refl _⟩
    | succ d ih =>
      intro i hi
      by_cases hb : bt x i = 46
      · exact ⟨_, _, (until_step (by omega) hx).1 hb, cutS_le _ _ _⟩
      · obtain ⟨h, r, e, q⟩ := ih (i + 1) (by omega)
        exact ⟨h, r, (until_step (by omega) hx).2 hb _ e, q⟩
  obtain ⟨h, r, e, q⟩ := key x.size 0 (by omega)
  exact ⟨h, r, Ev.fn (fun k => spec_l7Until.f_eq k _ _) (Ev.diag (L := fun K j => spec_l7Until.l6 K j x (⟨#[46]⟩ : ByteArray) 0) e), q⟩
theorem until_at {x : ByteArray} (hx : x.size ≤ 140737488351232) {n : Nat} (hn : n < x.size) (hb : bt x n = 46) (ho : ∀ i : Nat, i < n → bt x i ≠ 46) : Ev (fun K _ => spec_l7Until.f K x (⟨#[46]⟩ : ByteArray)) (cutS x 0 n, (cutS x n x.size, ())) := by
  have key : ∀ d i : Nat, n = i + d → Ev (fun K j => spec_l7Until.l6 K j x (⟨#[46]⟩ : ByteArray) (i : Int)) (cutS x 0 n, (cutS x n x.size, ())) := by
    intro d
    induction d with
    | zero => intro i hi; obtain rfl : n = i := by omega
              exact (until_step hn hx).1 hb
    | succ d ih => intro i hi; exact (until_step (by omega) hx).2 (ho i (by omega)) _ (ih (i + 1) (by omega))
  exact Ev.fn (fun k => spec_l7Until.f_eq k _ _) (Ev.diag (L := fun K j => spec_l7Until.l6 K j x (⟨#[46]⟩ : ByteArray) 0) (key n 0 (by omega)))
/-! numbers -/
def vD (l : List UInt8) : Nat := l.foldl (fun a b => 10 * a + (b.toNat - 48)) 0
theorem vD_snoc (l : List UInt8) (b : UInt8) : vD (l ++ [b]) = 10 * vD l + (b.toNat - 48) := by unfold vD; rw [List.foldl_append]; rfl
def isD (l : List UInt8) : Prop := ∀ b ∈ l, 48 ≤ b.toNat ∧ b.toNat ≤ 57
theorem dec_isD (u : Nat) : isD (Go.Lib.decDigits u) := by
  induction u using Nat.strongRecOn with
  | _ u ih =>
    by_cases h : u < 10
    · intro b hb
      unfold Go.Lib.decDigits at hb
      rw [dif_pos h] at hb
      rw [List.mem_singleton.1 hb]
      show 48 ≤ (48 + u) % 256 ∧ (48 + u) % 256 ≤ 57
      omega
    · rw [dec_step u h]
      intro b hb
      rcases List.mem_append.1 hb with hb | hb
      · exact ih (u / 10) (by omega) b hb
      · rw [List.mem_singleton.1 hb]
        show 48 ≤ (48 + u % 10) % 256 ∧ (48 + u % 10) % 256 ≤ 57
        omega
theorem dec_vD (u : Nat) : vD (Go.Lib.decDigits u) = u := by
  induction u using Nat.strongRecOn with
  | _ u ih =>
    by_cases h : u < 10
    · unfold Go.Lib.decDigits
      rw [dif_pos h]
      show 10 * 0 + ((48 + u) % 256 - 48) = u
      omega
    · rw [dec_step u h, vD_snoc, ih (u / 10) (by omega)]
      show 10 * (u / 10) + ((48 + u % 10) % 256 - 48) = u
      omega
theorem dec_ne (u : Nat) : Go.Lib.decDigits u ≠ [] := by
  by_cases h : u < 10
  · unfold Go.Lib.decDigits; rw [dif_pos h]; simp
  · rw [dec_step u h]; simp
theorem vD_lt : ∀ (n : Nat) (l : List UInt8), l.length = n → isD l → vD l < 10 ^ n := by
  intro n
  induction n with
  | zero => intro l h _; rw [List.length_eq_zero_iff.1 h]; decide
  | succ n ih =>
    intro l h hd
    obtain ⟨a, b, rfl⟩ : ∃ a b, l = a ++ [b] := ⟨l.dropLast, l.getLast (by intro e; rw [e] at h; cases h), (List.dropLast_concat_getLast _).symm⟩
    rw [List.length_append] at h
    have h1 := ih a (by simpa using h) fun x hx => hd x (List.mem_append_left _ hx)
    have h2 := hd b (by simp)
    rw [vD_snoc, Nat.pow_succ]
    omega
theorem dig_ev (a : Int) : Ev (fun K _ => spec_l1Digit.f K a) (decide (48 ≤ a ∧ a ≤ 57)) := Ev.fn (fun k => spec_l1Digit.f_eq k a) (Ev.ite (fun h => Ev.some (by simp; omega)) fun h => Ev.some (by simp; omega))
theorem wrap_in (x : Int) : -9223372036854775808 ≤ wrap64 x ∧ wrap64 x ≤ 9223372036854775807 := by unfold wrap64; constructor <;> omega
theorem whole_ex {x : ByteArray} (hx : x.size ≤ 140737488351232) : ∃ m ok, Ev (fun K _ => spec_l1Whole.f K x) (m, (ok, ())) ∧ -9223372036854775808 ≤ m ∧ m ≤ 9223372036854775807 := by
  by_cases h1 : (x.size : Int) < 1
  · exact ⟨0, false, Ev.fn (fun k => spec_l1Whole.f_eq k x) (Ev.yes h1 (Ev.now _)), by omega, by omega⟩
  by_cases h2 : (x.size : Int) > 20
  · exact ⟨0, false, Ev.fn (fun k => spec_l1Whole.f_eq k x) (Ev.no h1 (Ev.yes h2 (Ev.now _))), by omega, by omega⟩
  have key : ∀ (d i : Nat) (acc : Int), x.size = i + d → -9223372036854775808 ≤ acc ∧ acc ≤ 9223372036854775807 → ∃ m ok, Ev (fun K j => spec_l1Whole.l16 K j x acc (i : Int)) (m, (ok, ())) ∧ -9223372036854775808 ≤ m ∧ m ≤ 9223372036854775807 := by
    intro d
    induction d with
    | zero =>
      intro i acc hi ha
      by_cases hb : bt x 0 = 45
      · exact ⟨_, _, Ev.lp (fun K j => spec_l1Whole.l16_eq K j _ _ _) (Ev.no (by omega) (Ev.yes (by omega) (Ev.yes hb ((spec_num_all acc ha.1 ha.2).bind (Ev.now _))))), ha⟩
      · have hw := wrap_in (0 - acc)
        exact ⟨_, _, Ev.lp (fun K j => spec_l1Whole.l16_eq K j _ _ _) (Ev.no (by omega) (Ev.yes (by omega) (Ev.no hb ((spec_num_all _ hw.1 hw.2).bind (Ev.now _))))), hw⟩
    | succ d ih =>
      intro i acc hi ha
      have dg : ∃ m ok, Ev (fun K j => (spec_l1Digit.f K (bt x (i : Int))).bind fun t0 => if t0 = true then (if 0 ≤ (i : Int) ∧ (i : Int) < (x.size : Int) then spec_l1Whole.l16 K j x (wrap64 (wrap64 (acc * 10) - wrap64 (wr .u8 (bt x (i : Int) - 48)))) (wrap64 ((i : Int) + 1)) else none) else some (0, (false, ()))) (m, (ok, ())) ∧ -9223372036854775808 ≤ m ∧ m ≤ 9223372036854775807 := by
        by_cases hd : decide (48 ≤ bt x (i : Int) ∧ bt x (i : Int) ≤ 57) = true
        · obtain ⟨m, ok, e, q⟩ := ih (i + 1) (wrap64 (wrap64 (acc * 10) - wrap64 (wr .u8 (bt x (i : Int) - 48)))) (by omega) (wrap_in _)
          exact ⟨m, ok, (dig_ev _).bind (Ev.yes hd (Ev.yes (by omega) (by rw [wrap_nat (by omega)]; exact e))), q⟩
        · exact ⟨0, false, (dig_ev _).bind (Ev.no hd (Ev.now _)), by omega, by omega⟩
      obtain ⟨m, ok, e, q⟩ := dg
      by_cases h0 : (i : Int) = 0
      · by_cases hb : bt x 0 = 45
        · obtain ⟨m, ok, e, q⟩ := ih (i + 1) acc (by omega) ha
          exact ⟨m, ok, Ev.lp (fun K j => spec_l1Whole.l16_eq K j _ _ _) (Ev.yes (by omega) (Ev.yes h0 (Ev.yes (by omega) (Ev.yes hb (by rw [wrap_nat (by omega)]; exact e))))), q⟩
        · exact ⟨m, ok, Ev.lp (fun K j => spec_l1Whole.l16_eq K j _ _ _) (Ev.yes (by omega) (Ev.yes h0 (Ev.yes (by omega) (Ev.no hb (Ev.yes (by omega) e))))), q⟩
      · exact ⟨m, ok, Ev.lp (fun K j => spec_l1Whole.l16_eq K j _ _ _) (Ev.yes (by omega) (Ev.no h0 (Ev.yes (by omega) e))), q⟩
  obtain ⟨m, ok, e, q⟩ := key x.size 0 0 (by omega) (by omega)
  exact ⟨m, ok, Ev.fn (fun k => spec_l1Whole.f_eq k x) (Ev.no h1 (Ev.no h2 (Ev.diag (L := fun K j => spec_l1Whole.l16 K j x 0 0) e))), q⟩
theorem whole_dec (u : Nat) (hu : u ≤ 1000000) : Ev (fun K _ => spec_l1Whole.f K (itoaS (u : Int))) ((u : Int), (true, ())) := by
  have hne := dec_ne u
  have hD := dec_isD u
  have hV := dec_vD u
  have hl : (Go.Lib.decDigits u).length ≤ 7 := dec_len 6 u (by omega)
  rw [itoaS_nat]
  generalize hDu : Go.Lib.decDigits u = D at hne hD hV hl ⊢
  have hl0 : 0 < D.length := List.length_pos_iff.2 hne
  have sz : (⟨D.toArray⟩ : ByteArray).size = D.length := mk_size D
  have hlt : ∀ l : List UInt8, isD l → l.length ≤ 7 → vD l < 10000000 := fun l h1 h2 => Nat.lt_of_lt_of_le (vD_lt _ l rfl h1) (Nat.pow_le_pow_right (by omega) h2 : 10 ^ l.length ≤ 10 ^ 7)
  have bd : ∀ (i : Nat) (h : i < D.length), 48 ≤ bt ⟨D.toArray⟩ (i : Int) ∧ bt ⟨D.toArray⟩ (i : Int) ≤ 57 := fun i h => by
    rw [bt_mk D i h]
    have := hD D[i] (List.getElem_mem h)
    omega
  have b0 := bd 0 hl0
  have key : ∀ (d i : Nat), D.length = i + d → Ev (fun K j => spec_l1Whole.l16 K j ⟨D.toArray⟩ (-(vD (D.take i) : Int)) (i : Int)) ((u : Int), (true, ())) := by
    intro d
    induction d with
    | zero =>
      intro i hi
      obtain rfl : D.length = i := by omega
      rw [List.take_length, hV]
      refine Ev.lp (fun K j => spec_l1Whole.l16_eq K j _ _ _) (Ev.no (by rw [sz]; omega) (Ev.yes (by rw [sz]; omega) (Ev.no (by have := b0.1; show ¬ bt ⟨D.toArray⟩ 0 = 45; intro z; rw [show ((0 : Nat) : Int) = 0 from rfl, z] at this; omega) ?_)))
      have e : wrap64 (0 - -(u : Int)) = (u : Int) := by rw [wrap_id (by omega) (by omega)]; omega
      rw [e]
      refine (spec_num_ev u (by omega)).bind (Ev.some ?_)
      rw [itoaS_nat, hDu]
      simp
    | succ d ih =>
      intro i hi
      have hi' : i < D.length := by omega
      have z := ih (i + 1) (by omega)
      have et : D.take (i + 1) = D.take i ++ [D[i]] := List.take_succ_eq_append_getElem hi'
      have hq := hD D[i] (List.getElem_mem hi')
      have hv := hlt (D.take i) (fun b hb => hD b (List.mem_of_mem_take hb)) (by rw [List.length_take]; omega)
      have eb := bt_mk D i hi'
      have acc : wrap64 (wrap64 (-(vD (D.take i) : Int) * 10) - wrap64 (wr .u8 (bt ⟨D.toArray⟩ (i : Int) - 48))) = -(vD (D.take (i + 1)) : Int) := by
        rw [et, vD_snoc, eb, wr_u8, show ((D[i].toNat : Int) - 48) % 256 = (D[i].toNat : Int) - 48 by omega, wrap_id (x := -(vD (D.take i) : Int) * 10) (by omega) (by omega), wrap_id (x := (D[i].toNat : Int) - 48) (by omega) (by omega), wrap_id (by omega) (by omega)]
        omega
      have b := bd i hi'
      have dg : Ev (fun K j => (spec_l1Digit.f K (bt ⟨D.toArray⟩ (i : Int))).bind fun t0 => if t0 = true then (if 0 ≤ (i : Int) ∧ (i : Int) < ((⟨D.toArray⟩ : ByteArray).size : Int) then spec_l1Whole.l16 K j ⟨D.toArray⟩ (wrap64 (wrap64 (-(vD (D.take i) : Int) * 10) - wrap64 (wr .u8 (bt ⟨D.toArray⟩ (i : Int) - 48)))) (wrap64 ((i : Int) + 1)) else none) else some (0, (false, ()))) ((u : Int), (true, ())) :=
        (dig_ev _).bind (Ev.yes (decide_eq_true b) (Ev.yes (by rw [sz]; omega) (by rw [acc, wrap_nat (by omega)]; exact z)))
      by_cases h0 : (i : Int) = 0
      · exact Ev.lp (fun K j => spec_l1Whole.l16_eq K j _ _ _) (Ev.yes (by rw [sz]; omega) (Ev.yes h0 (Ev.yes (by rw [sz]; omega) (Ev.no (by show ¬ bt ⟨D.toArray⟩ 0 = 45; intro z; have := b0.1; rw [show ((0 : Nat) : Int) = 0 from rfl, z] at this; omega) (Ev.yes (by rw [sz]; omega) dg)))))
      · exact Ev.lp (fun K j => spec_l1Whole.l16_eq K j _ _ _) (Ev.yes (by rw [sz]; omega) (Ev.no h0 (Ev.yes (by rw [sz]; omega) dg)))
  exact Ev.fn (fun k => spec_l1Whole.f_eq k _) (Ev.no (by rw [sz]; omega) (Ev.no (by rw [sz]; omega) (Ev.diag (L := fun K j => spec_l1Whole.l16 K j ⟨D.toArray⟩ 0 0) (key D.length 0 (by omega)))))
/-! Atoi at digits -/
theorem parse_dec : ∀ (n : Nat) (l : List UInt8), l.length = n → isD l → n ≤ 7 → Go.Lib.parseUint10 0 l = .ok (vD l) := by
  have app : ∀ (l : List UInt8) (acc : Nat) (b : UInt8) (v : Nat), Go.Lib.parseUint10 acc l = .ok v → Go.Lib.parseUint10 acc (l ++ [b]) = Go.Lib.parseUint10 v [b] := by
    intro l
    induction l with
    | nil => intro acc b v h; simp only [Go.Lib.parseUint10] at h; injection h with h; subst h; rfl
    | cons c r ih =>
      intro acc b v h
      rw [List.cons_append]
      rw [Go.Lib.parseUint10] at h ⊢
      split at h
      · rename_i h1
        rw [if_pos h1]
        split at h
        · cases h
        · rename_i h2
          rw [if_neg h2]
          split at h
          · cases h
          · rename_i h3
            rw [if_neg h3]
            exact ih _ b v h
      · cases h
  intro n
  induction n with
  | zero => intro l h _ _; rw [List.length_eq_zero_iff.1 h]; rfl
  | succ n ih =>
    intro l h hd hn
    obtain ⟨a, b, rfl⟩ : ∃ a b, l = a ++ [b] := ⟨l.dropLast, l.getLast (by intro e; rw [e] at h; cases h), (List.dropLast_concat_getLast _).symm⟩
    rw [List.length_append] at h
    have ha : isD a := fun x hx => hd x (List.mem_append_left _ hx)
    have hla : a.length = n := by simpa using h
    have h1 := ih a hla ha (by omega)
    have h2 := hd b (by simp)
    have h3 : vD a < 10000000 := Nat.lt_of_lt_of_le (vD_lt _ a rfl ha) (Nat.pow_le_pow_right (by omega) (by omega) : 10 ^ a.length ≤ 10 ^ 7)
    rw [app a 0 b _ h1, vD_snoc]
    rw [Go.Lib.parseUint10, if_pos h2, if_neg (by omega), if_neg (by omega)]
    show Go.Lib.NumEnd.ok _ = _
    rw [Nat.mul_comm]
theorem atoi_dec (u : Nat) (hu : u ≤ 1000000) : atoiN (itoaS (u : Int)) = (u : Int) ∧ wholeB (itoaS (u : Int)) = true := by
  have hne := dec_ne u
  have hD := dec_isD u
  have hV := dec_vD u
  have hl : (Go.Lib.decDigits u).length ≤ 7 := dec_len 6 u (by omega)
  have hp := parse_dec _ _ rfl hD hl
  have ha : Go.Lib.atoiAll (Go.Lib.decDigits u) = .ok (u : Int) := by
    unfold Go.Lib.atoiAll
    generalize Go.Lib.decDigits u = D at hne hD hV hl hp
    cases D with
    | nil => exact absurd rfl hne
    | cons c r =>
      have hc := hD c (List.mem_cons_self ..)
      dsimp only
      rw [if_neg (by omega)]
      unfold Go.Lib.parseMag
      rw [if_neg (by simp), hp, hV]
      dsimp only
      rw [if_neg (by omega), if_neg (by omega), if_neg (by omega)]
  have hi : Go.Lib.itoa (u : Int) = Go.Lib.decDigits u := by unfold Go.Lib.itoa; rw [if_neg (by omega), Int.toNat_natCast]
  have hd : (itoaS (u : Int)).data.toList = Go.Lib.decDigits u := by rw [itoaS_nat]
  constructor
  · unfold atoiN; rw [hd, ha]
  · unfold wholeB
    rw [hd, ha]
    dsimp only
    rw [hi, ByteArray.toList_eq, hd]
    simp
/-! the dot found by IndexByte -/
theorem index_dot : ∀ (D A : List UInt8), isD D → Go.Lib.indexByte (D ++ 46 :: A) 46 = (D.length : Int)
  | [], A, _ => by simp [Go.Lib.indexByte]
  | c :: D, A, h => by
    have hc := h c (List.mem_cons_self ..)
    have ih := index_dot D A fun b hb => h b (List.mem_cons_of_mem _ hb)
    rw [List.cons_append, Go.Lib.indexByte, ih]
    have e1 : (c == 46) = false := by
      rw [beq_eq_false_iff_ne]
      intro z
      subst z
      exact absurd hc.1 (by decide)
    rw [e1]
    have e2 : ((D.length : Int) == -1) = false := by rw [beq_eq_false_iff_ne]; omega
    rw [e2]
    simp
theorem idx_le : ∀ (l : List UInt8) (c : UInt8), -1 ≤ Go.Lib.indexByte l c ∧ (0 ≤ Go.Lib.indexByte l c → Go.Lib.indexByte l c < l.length)
  | [], c => ⟨by simp [Go.Lib.indexByte], by simp [Go.Lib.indexByte]⟩
  | b :: l, c => by
    obtain ⟨h1, h2⟩ := idx_le l c
    rw [Go.Lib.indexByte]
    split
    · exact ⟨by omega, fun _ => by rw [List.length_cons]; omega⟩
    · split
      · exact ⟨by omega, fun h => by omega⟩
      · rename_i hb
        have : ¬ Go.Lib.indexByte l c = -1 := by simpa using hb
        exact ⟨by omega, fun _ => by rw [List.length_cons]; have := h2 (by omega); omega⟩
theorem trim_ex (x : ByteArray) (hx : x.size ≤ 140737488351232) : ∃ t, Ev (fun K _ => strings_TrimPrefix.f K x (⟨#[114]⟩ : ByteArray)) t ∧ t.size ≤ x.size ∧ (∀ l, x = ⟨(114 :: l).toArray⟩ → t = ⟨l.toArray⟩) := by
  have s1 : (⟨#[114]⟩ : ByteArray).size = 1 := rfl
  by_cases h0 : (x.size : Int) ≥ 1
  · have hp : Ev (fun K _ => internal_stringslite_HasPrefix.f K x (⟨#[114]⟩ : ByteArray)) (decide ((cutS x 0 1).toList = (⟨#[114]⟩ : ByteArray).toList)) :=
      Ev.fn (fun k => internal_stringslite_HasPrefix.f_eq k _ _) (Ev.yes (by rw [s1]; omega) (Ev.yes (by rw [s1]; omega) (Ev.some (by rw [s1]; rfl))))
    by_cases hq : decide ((cutS x 0 1).toList = (⟨#[114]⟩ : ByteArray).toList) = true
    · refine ⟨cutS x 1 x.size, Ev.fn (fun k => strings_TrimPrefix.f_eq k _ _) (Ev.tail (Ev.fn (fun k => internal_stringslite_TrimPrefix.f_eq k _ _) (hp.bind (Ev.yes hq (Ev.yes (by rw [s1]; omega) (Ev.some (by rw [s1]; rfl))))))), cutS_le _ _ _, fun l e => ?_⟩
      subst e
      rw [cutS_mk, mk_size]
      congr 1
      simp [List.take_of_length_le]
    · refine ⟨x, Ev.fn (fun k => strings_TrimPrefix.f_eq k _ _) (Ev.tail (Ev.fn (fun k => internal_stringslite_TrimPrefix.f_eq k _ _) (hp.bind (Ev.no hq (Ev.now _))))), Nat.le_refl _, fun l e => ?_⟩
      subst e
      refine absurd ?_ hq
      rw [decide_eq_true_eq, cutS_mk, ByteArray.toList_eq, ByteArray.toList_eq]
      simp
  · refine ⟨x, Ev.fn (fun k => strings_TrimPrefix.f_eq k _ _) (Ev.tail (Ev.fn (fun k => internal_stringslite_TrimPrefix.f_eq k _ _) ((Ev.fn (fun k => internal_stringslite_HasPrefix.f_eq k _ _) (Ev.no (by rw [s1]; omega) (Ev.now _))).bind (Ev.no (by decide) (Ev.now _))))), Nat.le_refl _, fun l e => ?_⟩
    subst e
    rw [mk_size, List.length_cons] at h0
    omega
theorem cut_ex (x : ByteArray) (hx : x.size ≤ 140737488351232) : ∃ h r b, Ev (fun K _ => strings_Cut.f K x (⟨#[46]⟩ : ByteArray)) (h, (r, (b, ()))) ∧ h.size ≤ x.size ∧ (∀ D A : List UInt8, isD D → 1 ≤ D.length → x = ⟨(D ++ 46 :: A).toArray⟩ → h = ⟨D.toArray⟩) := by
  have s1 : (⟨#[46]⟩ : ByteArray).size = 1 := rfl
  have b0 : bt (⟨#[46]⟩ : ByteArray) 0 = 46 := by decide
  have hI : ∀ i, Ev (fun K _ => internal_stringslite_Index.f K x (⟨#[46]⟩ : ByteArray)) i → -1 ≤ i → (0 ≤ i → i < x.size) → ∃ h r b, Ev (fun K _ => strings_Cut.f K x (⟨#[46]⟩ : ByteArray)) (h, (r, (b, ()))) ∧ h.size ≤ x.size ∧ (0 ≤ i → h = cutS x 0 i) := fun i hi h1 h2 => by
    by_cases h0 : i ≥ 0
    · exact ⟨_, _, _, Ev.fn (fun k => strings_Cut.f_eq k _ _) ((Ev.fn (fun k => internal_stringslite_Cut.f_eq k _ _) (hi.bind (Ev.yes h0 (Ev.yes (by have := h2 h0; omega) (Ev.yes (by have := h2 h0; rw [s1, wrap_id (by omega) (by omega)]; omega) (Ev.now _)))))).bind (Ev.now _)), cutS_le _ _ _, fun _ => rfl⟩
    · exact ⟨_, _, _, Ev.fn (fun k => strings_Cut.f_eq k _ _) ((Ev.fn (fun k => internal_stringslite_Cut.f_eq k _ _) (hi.bind (Ev.no h0 (Ev.now _)))).bind (Ev.now _)), Nat.le_refl _, fun h => absurd h h0⟩
  by_cases he : (⟨#[46]⟩ : ByteArray).toList = x.toList
  · have hx1 : x.size = 1 := by
      have := congrArg List.length he
      rw [ByteArray.toList_eq, ByteArray.toList_eq] at this
      simpa using this.symm
    obtain ⟨h, r, b, e, q, _⟩ := hI 0 (Ev.fn (fun k => internal_stringslite_Index.f_eq k _ _) (Ev.no (by rw [s1]; omega) (Ev.yes he (Ev.now _)))) (by omega) (fun _ => by omega)
    refine ⟨h, r, b, e, q, fun D A hD hl e2 => ?_⟩
    subst e2
    rw [mk_size, List.length_append, List.length_cons] at hx1
    omega
  · have hi : Ev (fun K _ => internal_stringslite_Index.f K x (⟨#[46]⟩ : ByteArray)) (Go.Lib.indexByte x.data.toList 46) :=
      Ev.fn (fun k => internal_stringslite_Index.f_eq k _ _) (Ev.no (by rw [s1]; omega) (Ev.no he (Ev.yes (by rw [s1]; rfl) (Ev.yes (by rw [s1]; omega) (Ev.tail (Ev.fn (fun k => internal_stringslite_IndexByte.f_eq k _ _) (Ev.some (by rw [b0]; rfl))))))))
    obtain ⟨h1, h2⟩ := idx_le x.data.toList 46
    have hs : x.data.toList.length = x.size := by simp
    obtain ⟨h, r, b, e, q, q2⟩ := hI _ hi h1 (fun h => by have := h2 h; omega)
    refine ⟨h, r, b, e, q, fun D A hD hl e2 => ?_⟩
    subst e2
    have ei : Go.Lib.indexByte (⟨(D ++ 46 :: A).toArray⟩ : ByteArray).data.toList 46 = (D.length : Int) := index_dot D A hD
    rw [ei] at q2
    rw [q2 (by omega), cutS_mk]
    simp
theorem readToken_same (a0 : Int) (x : ByteArray) (hx : x.size ≤ 1048576) : ∃ r, Ev (fun K _ => spec_ReadToken.f K a0 x) r ∧ Ev (fun K _ => impl_ReadToken.f K a0 x) r := by
  obtain ⟨sec, _⟩ := sec_ev a0
  obtain ⟨t, e1, e2, e3⟩ := trim_ex x (by omega)
  obtain ⟨h, r, b, f1, f2, f3⟩ := cut_ex t (by omega)
  have hw : Ev (fun K _ => impl_ywhole.f K h) (atoiN h, (wholeB h, ())) := Ev.fn (fun k => impl_ywhole.f_eq k _) (Ev.yes (by unfold shortB; rw [decide_eq_true_eq]; omega) (Ev.now _))
  have hN : -9223372036854775808 ≤ atoiN h ∧ atoiN h ≤ 9223372036854775807 := by
    unfold atoiN
    split
    · rename_i hh; exact atoi_range hh
    · omega
    · unfold Go.Lib.atoiSat; split <;> omega
  obtain ⟨g, s, u1, u2⟩ := until_ex (x := x) (by omega)
  by_cases hA : ∃ u : Nat, u ≤ 1000000 ∧ (1 ≤ a0 ∧ a0 < 1073741789) ∧ ∃ A, x = appS (appS (appS (⟨#[114]⟩ : ByteArray) (itoaS (u : Int))) (⟨#[46]⟩ : ByteArray)) A ∧ Ev (fun K _ => spec_TokenOf.f K a0 (u : Int)) x ∧ Ev (fun K _ => impl_TokenOf.f K a0 (u : Int)) x
  · obtain ⟨u, hu, hs, A, hxA, T1, T2⟩ := hA
    have hne := dec_ne u
    have hD := dec_isD u
    have hl : (Go.Lib.decDigits u).length ≤ 7 := dec_len 6 u (by omega)
    have hl0 : 1 ≤ (Go.Lib.decDigits u).length := List.length_pos_iff.2 hne
    have eA : A = ⟨A.data.toList.toArray⟩ := by simp
    have eX : x = ⟨(114 :: (Go.Lib.decDigits u ++ 46 :: A.data.toList)).toArray⟩ := by
      rw [hxA, itoaS_nat]
      conv => lhs; rw [eA]
      rw [show (⟨#[114]⟩ : ByteArray) = ⟨[(114 : UInt8)].toArray⟩ from rfl, show (⟨#[46]⟩ : ByteArray) = ⟨[(46 : UInt8)].toArray⟩ from rfl, appS_mk, appS_mk, appS_mk]
      simp
    have et := e3 _ eX
    have eh := f3 _ _ hD hl0 et
    rw [← itoaS_nat] at eh
    obtain ⟨w1, w2⟩ := atoi_dec u hu
    refine ⟨((u : Int), (true, ())), ?_, ?_⟩
    · have hsz : x.size = 1 + ((Go.Lib.decDigits u).length + (1 + A.data.toList.length)) := by rw [eX, mk_size]; simp; omega
      have hb : ∀ (i : Nat) (h : i < (114 :: (Go.Lib.decDigits u ++ 46 :: A.data.toList) : List UInt8).length), bt x (i : Int) = ((114 :: (Go.Lib.decDigits u ++ 46 :: A.data.toList) : List UInt8)[i].toNat : Int) := fun i h => by rw [eX]; exact bt_mk _ i h
      have hu2 := until_at (x := x) (by omega) (n := (Go.Lib.decDigits u).length + 1) (by omega) (by
        rw [hb _ (by simp)]
        simp) (fun i hi => by
        rw [hb i (by simp; omega)]
        cases i with
        | zero => simp
        | succ i =>
          simp only [List.getElem_cons_succ]
          rw [List.getElem_append_left (by omega)]
          have := hD (Go.Lib.decDigits u)[i] (List.getElem_mem (by omega))
          omega)
      have eg : cutS x 0 (((Go.Lib.decDigits u).length + 1 : Nat) : Int) = ⟨(114 :: Go.Lib.decDigits u).toArray⟩ := by
        rw [eX, cutS_mk]
        rw [show (((Go.Lib.decDigits u).length + 1 : Nat) : Int).toNat = (Go.Lib.decDigits u).length + 1 by omega]
        simp
      rw [eg] at hu2
      have gs : (⟨(114 :: Go.Lib.decDigits u).toArray⟩ : ByteArray).size = (Go.Lib.decDigits u).length + 1 := by rw [mk_size]; rfl
      have gb : bt ⟨(114 :: Go.Lib.decDigits u).toArray⟩ 0 = 114 := bt_mk (114 :: Go.Lib.decDigits u) 0 (by simp)
      have gc : cutS ⟨(114 :: Go.Lib.decDigits u).toArray⟩ 1 ((⟨(114 :: Go.Lib.decDigits u).toArray⟩ : ByteArray).size : Int) = itoaS (u : Int) := by
        rw [cutS_mk, gs, itoaS_nat]
        rw [show (((Go.Lib.decDigits u).length + 1 : Nat) : Int).toNat = (Go.Lib.decDigits u).length + 1 by omega]
        simp
      refine Ev.fn (fun k => spec_ReadToken.f_eq k _ _) (hu2.bind (sec.bind (Ev.yes (decide_eq_true hs) (Ev.no (by rw [gs]; omega) (Ev.yes (by rw [gs]; omega) (Ev.yes gb (Ev.yes (by rw [gs]; omega) ?_)))))))
      rw [gc]
      exact (whole_dec u hu).bind (Ev.yes rfl (T1.bind (Ev.yes rfl (Ev.now _))))
    · rw [eh] at f1 hw
      rw [w1, w2] at hw
      refine Ev.fn (fun k => impl_ReadToken.f_eq k _ _) (e1.bind (f1.bind (hw.bind (Ev.yes rfl (Ev.no ?_ (T2.bind (Ev.yes rfl (Ev.now _))))))))
      intro z
      rw [eX, ByteArray.toList_eq, ByteArray.toList_eq] at z
      simp at z
  · have none1 : ∀ m : Int, -9223372036854775808 ≤ m → m ≤ 9223372036854775807 → x ≠ ⟨#[]⟩ → ∃ t, Ev (fun K _ => spec_TokenOf.f K a0 m) t ∧ Ev (fun K _ => impl_TokenOf.f K a0 m) t ∧ ¬ t.toList = x.toList := fun m m0 m1 hne => by
      obtain ⟨t, ⟨T1, T2⟩, hT⟩ := token_ev a0 m ⟨m0, m1⟩
      refine ⟨t, T1, T2, fun z => ?_⟩
      have z2 : t = x := by
        rw [ByteArray.toList_eq, ByteArray.toList_eq] at z
        exact ByteArray.ext (Array.toList_inj.1 z)
      subst z2
      rcases hT with rfl | ⟨hs, u, rfl, hu, A, hA2⟩
      · exact hne rfl
      · exact hA ⟨u, hu, hs, A, hA2, T1, T2⟩
    refine ⟨(0, (false, ())), ?_, ?_⟩
    · refine Ev.fn (fun k => spec_ReadToken.f_eq k _ _) (u1.bind (sec.bind (Ev.ite (fun _ => Ev.ite (fun _ => Ev.now _) fun h2 => Ev.yes (by omega) (Ev.ite (fun _ => Ev.yes (by omega) ?_) fun _ => Ev.now _)) fun _ => Ev.now _)))
      obtain ⟨m, ok, W, m0, m1⟩ := whole_ex (x := cutS g 1 (g.size : Int)) (by have := cutS_le g 1 (g.size : Int); omega)
      refine W.bind (Ev.ite (fun _ => ?_) fun _ => Ev.now _)
      obtain ⟨t, T1, _, hn⟩ := none1 m m0 m1 (by intro z; have h3 : ¬ ((g.size : Int) < 2) := h2; rw [z] at u2; have q : (⟨#[]⟩ : ByteArray).size = 0 := rfl; omega)
      exact T1.bind (Ev.no hn (Ev.now _))
    · refine Ev.fn (fun k => impl_ReadToken.f_eq k _ _) (e1.bind (f1.bind (hw.bind (Ev.ite (fun _ => Ev.ite (fun _ => Ev.now _) fun h2 => ?_) fun _ => Ev.now _))))
      obtain ⟨t, _, T2, hn⟩ := none1 _ hN.1 hN.2 (by intro z; subst z; exact h2 rfl)
      exact T2.bind (Ev.no hn (Ev.now _))
theorem Pure.FnExactReadToken : laws_FnExactReadToken.Pure := by
  intro a0 a1 f0 f1
  apply Ev.rounds
  refine Ev.fn (fun k => laws_FnExactReadToken.f_eq k a0 a1) (Ev.ite (fun h => Ev.now _) fun h => ?_)
  obtain ⟨r, h1, h2⟩ := readToken_same a0 a1 (by omega)
  exact h1.bind (h2.bind (Ev.yes rfl (Ev.no (by simp) (Ev.now _))))

end Go.Proofs.YtaejbcahfnlggaaDoor.PT
