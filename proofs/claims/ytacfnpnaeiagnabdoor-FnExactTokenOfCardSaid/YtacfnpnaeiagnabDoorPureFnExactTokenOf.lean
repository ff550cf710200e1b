-- The plain law of this claim: no program in sight but the equations of its functions.
import Derived.Test.YtacfnpnaeiagnabDoorFitFnExactTokenOf
import Derived.Test.YtacfnpnaeiagnabDoorDenP
namespace Go.Proofs.YtacfnpnaeiagnabDoor.PT
open Go Go.Den
open Go.RowKit (wrap64)
set_option linter.unusedVariables false
set_option linter.unusedSimpArgs false
set_option linter.unusedSectionVars false
set_option maxRecDepth 20000
/-! ### values beside their measure -/
theorem wf_range {k : IntKind} {x : Int} (h : k.min ≤ x ∧ x ≤ k.max) : (Lit.int k x).wf = true := by
  simp [Lit.wf]; exact h
theorem fit_bool (b : Bool) : fitSh .bool b := trivial
theorem fit_unit : fitSh .unit () := trivial
theorem fit_pair {a b : Sh} {x : sem a} {y : sem b} (h : fitSh a x) (g : fitSh b y) : fitSh (.pair a b) (x, y) := ⟨h, g⟩
theorem fit_lst {t : Sh} {l : List (sem t)} (h : l.length ≤ 140737488351232) (g : allIn (α := sem t) l (fitSh t)) : fitSh (.list t) l := ⟨h, g⟩
theorem fit_dflt : ∀ s : Sh, fitSh s (dflt s)
  | .int k => by cases k <;> rfl
  | .bool => trivial
  | .str => by show (0 : Nat) ≤ _; omega
  | .unit => trivial
  | .pair a b => ⟨fit_dflt a, fit_dflt b⟩
  | .list t => ⟨Nat.zero_le _, fun x hx => by cases hx⟩
theorem fit_rd {t : Sh} {l : List (sem t)} (h : fitSh (.list t) l) (i : Int) : fitSh t (rd (dflt t) l i) := by
  unfold rd
  rw [List.getD_eq_getElem?_getD]
  cases hi : l[i.toNat]? with
  | none => exact fit_dflt t
  | some x => exact h.2 x (List.mem_of_getElem? hi)
theorem fit_cut {t : Sh} {l : List (sem t)} (h : fitSh (.list t) l) (a b : Int) : fitSh (.list t) (cut l a b) := by
  unfold cut
  refine ⟨?_, fun x hx => h.2 x (List.mem_of_mem_take (List.mem_of_mem_drop hx))⟩
  have h1 : l.length ≤ 140737488351232 := h.1
  show List.length _ ≤ _
  rw [List.length_drop, List.length_take]; omega
theorem fit_nil {t : Sh} : fitSh (.list t) ([] : List (sem t)) := ⟨Nat.zero_le _, fun x hx => by cases hx⟩
theorem fit_cons {t : Sh} {x : sem t} {l : List (sem t)} (hx : fitSh t x) (h : allIn (α := sem t) l (fitSh t)) : allIn (α := sem t) (x :: l) (fitSh t) := fun y hy => by
  rcases List.mem_cons.1 hy with rfl | hy
  · exact hx
  · exact h y hy
theorem fit_cutS {s : ByteArray} (h : fitSh .str s) (a b : Int) : fitSh .str (cutS s a b) := by
  have h : s.size ≤ 140737488351232 := h
  show (s.extract a.toNat b.toNat).size ≤ _
  rw [ByteArray.size_extract]; omega
theorem fit_len {n : Nat} (h : n ≤ 140737488351232) : fitSh (.int .i64) (n : Int) := wf_range (by simp only [IntKind.min, IntKind.max, IntKind.signed, IntKind.bits]; constructor <;> simp <;> omega)
theorem fit_wrap (x : Int) : fitSh (.int .i64) (wrap64 x) := wf_range (by simp only [IntKind.min, IntKind.max, IntKind.signed, IntKind.bits]; unfold wrap64; constructor <;> simp <;> omega)
theorem fit_i64 {x : Int} (h : -9223372036854775808 ≤ x ∧ x ≤ 9223372036854775807) : fitSh (.int .i64) x := wf_range (by simp only [IntKind.min, IntKind.max, IntKind.signed, IntKind.bits]; constructor <;> simp <;> omega)
theorem i64_of {x : Int} (h : fitSh (.int .i64) x) : -9223372036854775808 ≤ x ∧ x ≤ 9223372036854775807 := by
  have h : (Lit.int .i64 x).wf = true := h
  simp [Lit.wf, IntKind.min, IntKind.max, IntKind.signed, IntKind.bits] at h
  omega
theorem fit_bytes {s : ByteArray} (h : Nat.ble s.size 140737488351232 = true) : fitSh .str s := Nat.le_of_ble_eq_true h
theorem fit_u8 {x : Int} (h : 0 ≤ x ∧ x ≤ 255) : fitSh (.int .u8) x := wf_range (by simp only [IntKind.min, IntKind.max, IntKind.signed, IntKind.bits]; constructor <;> simp <;> omega)
theorem fit_bt (s : ByteArray) (i : Int) : fitSh (.int .u8) (bt s i) := fit_u8 (bt_range s i)
theorem fit_wfb {k : IntKind} {x : Int} (h : (Lit.int k x).wf = true) : fitSh (.int k) x := h
def EvF (s : Sh) (g : Nat → Nat → Option (sem s)) (r : sem s) : Prop := Ev g r ∧ fitSh s r
section
variable {s s' : Sh} {r : sem s}
theorem EvF.some {a : sem s} (h : a = r) (f : fitSh s r) : EvF s (fun _ _ => Option.some a) r := ⟨Ev.some h, f⟩
theorem EvF.now (f : fitSh s r) : EvF s (fun _ _ => Option.some r) r := ⟨Ev.now r, f⟩
theorem EvF.yes {c : Prop} {inst : Decidable c} {A B : Nat → Nat → Option (sem s)} (h : c) (k : EvF s A r) : EvF s (fun K j => @ite _ c inst (A K j) (B K j)) r := ⟨k.1.congr fun _ _ => if_pos h, k.2⟩
theorem EvF.no {c : Prop} {inst : Decidable c} {A B : Nat → Nat → Option (sem s)} (h : ¬ c) (k : EvF s B r) : EvF s (fun K j => @ite _ c inst (A K j) (B K j)) r := ⟨k.1.congr fun _ _ => if_neg h, k.2⟩
theorem EvF.ite {c : Prop} {inst : Decidable c} {A B : Nat → Nat → Option (sem s)} {x y : sem s} (h : c → EvF s A x) (k : ¬ c → EvF s B y) : EvF s (fun K j => @ite _ c inst (A K j) (B K j)) (@ite _ c inst x y) := by
  by_cases e : c
  · rw [if_pos e]; exact EvF.yes e (h e)
  · rw [if_neg e]; exact EvF.no e (k e)
theorem EvF.bind {g : Nat → Nat → Option (sem s')} {f : Nat → Nat → sem s' → Option (sem s)} {a : sem s'} (h : EvF s' g a) (k : fitSh s' a → EvF s (fun K j => f K j a) r) : EvF s (fun K j => (g K j).bind (f K j)) r :=
  ⟨h.1.bind (k h.2).1, (k h.2).2⟩
theorem EvF.fn {f B : Nat → Option (sem s)} (e : ∀ k, f (k + 1) = B k) (h : EvF s (fun K _ => B K) r) : EvF s (fun K _ => f K) r := ⟨Ev.fn e h.1, h.2⟩
theorem EvF.lp {L B : Nat → Nat → Option (sem s)} (e : ∀ K j, L K (j + 1) = B K j) (h : EvF s B r) : EvF s L r := ⟨Ev.lp e h.1, h.2⟩
theorem EvF.diag {L : Nat → Nat → Option (sem s)} (h : EvF s L r) : EvF s (fun K _ => L K K) r := ⟨Ev.diag h.1, h.2⟩
end
theorem drop_more {α : Type} {l : List α} {i : Nat} {x : α} {r : List α} (h : l.drop i = x :: r) : i < l.length ∧ l.drop (i + 1) = r ∧ ∀ z, rd z l (i : Int) = x := by
  have hi : i < l.length := by
    rcases Nat.lt_or_ge i l.length with q | q
    · exact q
    · rw [List.drop_eq_nil_of_le q] at h; cases h
  rw [List.drop_eq_getElem_cons hi] at h
  obtain ⟨h1, h2⟩ := List.cons.inj h
  exact ⟨hi, h2, fun z => by rw [rd_at z l i hi]; exact h1⟩
theorem drop_none {α : Type} {l : List α} {i : Nat} (h : l.drop i = []) : l.length ≤ i := by
  have := congrArg List.length h
  rw [List.length_drop] at this
  simp at this; omega
theorem bdrop_more {s : ByteArray} {i : Nat} {x : Int} {r : List Int} (h : (bytesOf s).drop i = x :: r) : i < s.size ∧ (bytesOf s).drop (i + 1) = r ∧ bt s (i : Int) = x := by
  have hi : i < s.size := by
    rcases Nat.lt_or_ge i s.size with q | q
    · exact q
    · rw [List.drop_eq_nil_of_le (by rw [bytesOf_length]; exact q)] at h; cases h
  rw [drop_bytes s i hi] at h
  obtain ⟨h1, h2⟩ := List.cons.inj h
  exact ⟨hi, h2, h1⟩
theorem bdrop_none {s : ByteArray} {i : Nat} (h : (bytesOf s).drop i = []) : s.size ≤ i := by
  have := congrArg List.length h
  rw [List.length_drop, bytesOf_length] at this
  simp at this; omega

/-! ### the digest -/
abbrev M4 : Type := Int × Int × Int × Int
def mixV (a m x b : Int) : Int := remI (wrap64 (wrap64 (wrap64 (wrap64 (a * m) + x) + 1) + b)) 2147483579
def eatV (s : M4) (x : Int) : M4 :=
  (mixV s.1 1103515245 x s.2.1, mixV s.2.1 69069 x s.2.2.1, mixV s.2.2.1 1664525 x s.2.2.2, mixV s.2.2.2 22695477 x (mixV s.1 1103515245 x s.2.1))
def lst4 (s : M4) : List Int := [s.1, s.2.1, s.2.2.1, s.2.2.2]
def bytes4 (n : Int) : List Int := [n % 256, n / 256 % 256, n / 65536 % 256, n / 16777216 % 256]
def digV (l : List Int) : M4 := (List.replicate 8 (0 : Int)).foldl eatV ((bytes4 (l.length : Int)).foldl eatV (l.foldl eatV (11, 22, 33, 44)))
def outV (s : M4) : List Int := bytes4 s.1 ++ bytes4 s.2.1 ++ bytes4 s.2.2.1 ++ bytes4 s.2.2.2
def digest (l : List Int) : List Int := outV (digV l)
def Fit4 (s : M4) : Prop := (0 ≤ s.1 ∧ s.1 < 2147483579) ∧ (0 ≤ s.2.1 ∧ s.2.1 < 2147483579) ∧ (0 ≤ s.2.2.1 ∧ s.2.2.1 < 2147483579) ∧ (0 ≤ s.2.2.2 ∧ s.2.2.2 < 2147483579)
def isBytes (l : List Int) : Prop := ∀ x ∈ l, 0 ≤ x ∧ x ≤ 255
theorem mixV_fit {a m x b : Int} (ha : 0 ≤ a ∧ a < 2147483579) (hm : 0 ≤ m ∧ m < 2147483579) (hx : 0 ≤ x ∧ x ≤ 255) (hb : 0 ≤ b ∧ b < 2147483579) : 0 ≤ mixV a m x b ∧ mixV a m x b < 2147483579 := by
  unfold mixV
  have h1 : 0 ≤ a * m := Int.mul_nonneg ha.1 hm.1
  have h2 : a * m ≤ 2147483579 * m := Int.mul_le_mul_of_nonneg_right (by omega) hm.1
  have h3 : 2147483579 * m ≤ 2147483579 * 2147483579 := Int.mul_le_mul_of_nonneg_left (by omega) (by omega)
  generalize a * m = p at *
  have e : wrap64 (wrap64 (wrap64 (wrap64 p + x) + 1) + b) = p + x + 1 + b := by unfold wrap64; omega
  unfold remI
  rw [e, Int.tmod_eq_emod_of_nonneg (by omega)]
  omega
theorem eatV_fit {s : M4} {x : Int} (h : Fit4 s) (hx : 0 ≤ x ∧ x ≤ 255) : Fit4 (eatV s x) := by
  obtain ⟨h1, h2, h3, h4⟩ := h
  have k1 := mixV_fit h1 (m := 1103515245) (by omega) hx h2
  exact ⟨k1, mixV_fit h2 (by omega) hx h3, mixV_fit h3 (by omega) hx h4, mixV_fit h4 (by omega) hx k1⟩
theorem fold_fit (l : List Int) : ∀ (s : M4), Fit4 s → isBytes l → Fit4 (l.foldl eatV s) := by
  induction l with
  | nil => intro s h _; exact h
  | cons x l ih => intro s h hx; exact ih _ (eatV_fit h (hx x (by simp))) (fun y hy => hx y (by simp [hy]))
theorem bytes4_bytes (n : Int) : isBytes (bytes4 n) := by
  intro x hx
  simp only [bytes4, List.mem_cons, List.not_mem_nil, or_false] at hx
  rcases hx with rfl | rfl | rfl | rfl <;> omega
theorem zeros_bytes (n : Nat) : isBytes (List.replicate n (0 : Int)) := by
  intro x hx
  obtain rfl := (List.mem_replicate.1 hx).2
  omega
theorem dig_fit (l : List Int) (h : isBytes l) : Fit4 (digV l) :=
  fold_fit _ _ (fold_fit _ _ (fold_fit _ _ ⟨by decide, by decide, by decide, by decide⟩ h) (bytes4_bytes _)) (zeros_bytes _)
theorem digest_len (l : List Int) : (digest l).length = 16 := rfl
theorem cat_bytes {a b : List Int} (ha : isBytes a) (hb : isBytes b) : isBytes (a ++ b) := fun x hx => by
  rcases List.mem_append.1 hx with h | h
  · exact ha x h
  · exact hb x h
theorem digest_bytes (l : List Int) : isBytes (digest l) := cat_bytes (cat_bytes (cat_bytes (bytes4_bytes _) (bytes4_bytes _)) (bytes4_bytes _)) (bytes4_bytes _)
/-! numbers as bytes -/
theorem wr_u8 (x : Int) : wr .u8 x = x % 256 := IntKind.wrap_u8 x
theorem shr_div (n : Int) (k : Nat) (hk : k ≤ 64) : shrI .i64 n (k : Int) = n / 2 ^ k := by
  unfold shrI
  rw [Int.toNat_natCast, Nat.min_eq_left (show k ≤ IntKind.i64.bits from hk)]
  exact Int.fdiv_eq_ediv_of_nonneg _ (Int.le_of_lt (Int.pow_pos (by decide)))
theorem impl_bytes_ev (n : Int) : Ev (fun K _ => impl_ybytes_m.f K n) (bytes4 n, ()) := by
  refine Ev.fn (fun k => impl_ybytes_m.f_eq k n) (Ev.some ?_)
  have e8 : shrI .i64 n 8 = n / 256 := shr_div n 8 (by decide)
  have e16 : shrI .i64 n 16 = n / 65536 := shr_div n 16 (by decide)
  have e24 : shrI .i64 n 24 = n / 16777216 := shr_div n 24 (by decide)
  rw [e8, e16, e24, wr_u8, wr_u8, wr_u8, wr_u8]; rfl
theorem lb_step (n : Int) (i : Nat) (hi : i < 4) (y : List Int) (hy : y.length = 4) (h0 : 0 ≤ n) (h1 : n < 9223372036854775807) {r : List Int × Unit} (k : Ev (fun K j => spec_l2Bytes_m.l8 K j (n / 256) 4 ((i + 1 : Nat) : Int) (y.set i (n % 256))) r) :
    Ev (fun K j => spec_l2Bytes_m.l8 K j n 4 (i : Int) y) r := by
  refine Ev.lp (fun K j => spec_l2Bytes_m.l8_eq K j n 4 i y) (Ev.yes (by omega) (Ev.yes (by omega) (Ev.bind (Ev.now _) ?_)))
  have e1 : wrap64 (quoI n 256) = n / 256 := by
    unfold quoI
    rw [Int.tdiv_eq_ediv_of_nonneg h0]
    exact wrap_id (by omega) (by omega)
  have e2 : put y (i : Int) (wr .u8 (remI n 256)) = y.set i (n % 256) := by
    unfold put remI
    rw [Int.toNat_natCast, wr_u8, Int.tmod_eq_emod_of_nonneg h0, Int.emod_emod_of_dvd n (Int.dvd_refl 256)]
  rw [e1, e2, wrap_nat (by omega)]
  exact k
theorem spec_bytes_ev (n : Int) (h0 : 0 ≤ n) (h1 : n < 9223372036854775807) : Ev (fun K _ => spec_l2Bytes_m.f K n) (bytes4 n, ()) := by
  refine Ev.fn (fun k => spec_l2Bytes_m.f_eq k n) (Ev.yes (by omega) (Ev.diag (L := fun K j => spec_l2Bytes_m.l8 K j n 4 ((0 : Nat) : Int) [0, 0, 0, 0]) ?_))
  refine lb_step n 0 (by omega) _ rfl h0 h1 (lb_step _ 1 (by omega) _ rfl (by omega) (by omega) (lb_step _ 2 (by omega) _ rfl (by omega) (by omega) (lb_step _ 3 (by omega) _ rfl (by omega) (by omega) ?_)))
  refine Ev.lp (fun K j => spec_l2Bytes_m.l8_eq K j _ 4 _ _) (Ev.no (by omega) (Ev.some ?_))
  show ([n % 256, n / 256 % 256, n / 256 / 256 % 256, n / 256 / 256 / 256 % 256], ()) = _
  unfold bytes4
  rw [show n / 256 / 256 = n / 65536 by omega, show n / 65536 / 256 = n / 16777216 by omega]
/-! a byte taken in -/
theorem rem1 : remI (wrap64 (0 + 1)) 4 = 1 := by kernel_rfl
theorem rem2 : remI (wrap64 (1 + 1)) 4 = 2 := by kernel_rfl
theorem rem3 : remI (wrap64 (2 + 1)) 4 = 3 := by kernel_rfl
theorem rem0 : remI (wrap64 (3 + 1)) 4 = 0 := by kernel_rfl
theorem w1 : wrap64 (0 + 1) = 1 := by kernel_rfl
theorem w2 : wrap64 (1 + 1) = 2 := by kernel_rfl
theorem w3 : wrap64 (2 + 1) = 3 := by kernel_rfl
theorem w4 : wrap64 (3 + 1) = 4 := by kernel_rfl
theorem spec_mix_ev (s : M4) (x : Int) : Ev (fun K _ => spec_l2Mix_m.f K (lst4 s) x) (lst4 (eatV s x), ()) := by
  obtain ⟨a, b, c, d⟩ := s
  refine Ev.fn (fun k => spec_l2Mix_m.f_eq k _ x) (Ev.diag (L := fun K j => spec_l2Mix_m.l5 K j x 0 [a, b, c, d] [1103515245, 69069, 1664525, 22695477]) ?_)
  refine Ev.lp (fun K j => spec_l2Mix_m.l5_eq K j x 0 _ _) ?_
  rw [rem1, w1]
  refine (Ev.yes (by decide) (Ev.yes (by simp) (Ev.yes (by simp) (Ev.yes (by simp) (Ev.yes (by simp) (Ev.bind (Ev.now _) ?_))))))
  show Ev (fun K j => spec_l2Mix_m.l5 K j x 1 [mixV a 1103515245 x b, b, c, d] [1103515245, 69069, 1664525, 22695477]) _
  refine Ev.lp (fun K j => spec_l2Mix_m.l5_eq K j x 1 _ _) ?_
  rw [rem2, w2]
  refine (Ev.yes (by decide) (Ev.yes (by simp) (Ev.yes (by simp) (Ev.yes (by simp) (Ev.yes (by simp) (Ev.bind (Ev.now _) ?_))))))
  show Ev (fun K j => spec_l2Mix_m.l5 K j x 2 [mixV a 1103515245 x b, mixV b 69069 x c, c, d] [1103515245, 69069, 1664525, 22695477]) _
  refine Ev.lp (fun K j => spec_l2Mix_m.l5_eq K j x 2 _ _) ?_
  rw [rem3, w3]
  refine (Ev.yes (by decide) (Ev.yes (by simp) (Ev.yes (by simp) (Ev.yes (by simp) (Ev.yes (by simp) (Ev.bind (Ev.now _) ?_))))))
  show Ev (fun K j => spec_l2Mix_m.l5 K j x 3 [mixV a 1103515245 x b, mixV b 69069 x c, mixV c 1664525 x d, d] [1103515245, 69069, 1664525, 22695477]) _
  refine Ev.lp (fun K j => spec_l2Mix_m.l5_eq K j x 3 _ _) ?_
  rw [rem0, w4]
  refine (Ev.yes (by decide) (Ev.yes (by simp) (Ev.yes (by simp) (Ev.yes (by simp) (Ev.yes (by simp) (Ev.bind (Ev.now _) ?_))))))
  show Ev (fun K j => spec_l2Mix_m.l5 K j x 4 (lst4 (eatV (a, b, c, d) x)) [1103515245, 69069, 1664525, 22695477]) _
  exact Ev.lp (fun K j => spec_l2Mix_m.l5_eq K j x 4 _ _) (Ev.no (by decide) (Ev.now _))
def res8 (s : M4) : Int × (Int × (Int × (Int × (Int × (Int × (Int × (Int × Unit))))))) := (s.1, s.2.1, s.2.2.1, s.2.2.2, 1103515245, 69069, 1664525, 22695477, ())
theorem impl_eat_ev (s : M4) (x : Int) : Ev (fun K _ => impl_Digest_1_m.f K s.1 s.2.1 s.2.2.1 s.2.2.2 1103515245 69069 1664525 22695477 x) (res8 (eatV s (wrap64 x))) := by
  obtain ⟨a, b, c, d⟩ := s
  refine Ev.fn (fun k => impl_Digest_1_m.f_eq k a b c d _ _ _ _ x) (Ev.diag (L := fun K j => impl_Digest_1_m.l3 K j x 0 a b c d 1103515245 69069 1664525 22695477) ?_)
  refine Ev.lp (fun K j => impl_Digest_1_m.l3_eq K j x 0 _ _ _ _ _ _ _ _) ?_
  rw [rem1, w1]
  refine (Ev.yes (by decide) (Ev.yes (by decide) (Ev.yes (by decide) (Ev.no (by decide) (Ev.yes (by decide) (Ev.yes (by decide) ?_))))))
  show Ev (fun K j => impl_Digest_1_m.l3 K j x 1 (mixV a 1103515245 (wrap64 x) b) b c d 1103515245 69069 1664525 22695477) _
  refine Ev.lp (fun K j => impl_Digest_1_m.l3_eq K j x 1 _ _ _ _ _ _ _ _) ?_
  rw [rem2, w2]
  refine (Ev.yes (by decide) (Ev.no (by decide) (Ev.yes (by decide) (Ev.no (by decide) (Ev.yes (by decide) (Ev.no (by decide) (Ev.no (by decide) (Ev.yes (by decide) (Ev.no (by decide) (Ev.yes (by decide) ?_))))))))))
  show Ev (fun K j => impl_Digest_1_m.l3 K j x 2 (mixV a 1103515245 (wrap64 x) b) (mixV b 69069 (wrap64 x) c) c d 1103515245 69069 1664525 22695477) _
  refine Ev.lp (fun K j => impl_Digest_1_m.l3_eq K j x 2 _ _ _ _ _ _ _ _) ?_
  rw [rem3, w3]
  refine (Ev.yes (by decide) (Ev.no (by decide) (Ev.no (by decide) (Ev.yes (by decide) (Ev.no (by decide) (Ev.no (by decide) (Ev.yes (by decide) (Ev.no (by decide) (Ev.no (by decide) (Ev.no (by decide) (Ev.yes (by decide) (Ev.no (by decide) (Ev.no (by decide) (Ev.yes (by decide) ?_))))))))))))))
  show Ev (fun K j => impl_Digest_1_m.l3 K j x 3 (mixV a 1103515245 (wrap64 x) b) (mixV b 69069 (wrap64 x) c) (mixV c 1664525 (wrap64 x) d) d 1103515245 69069 1664525 22695477) _
  refine Ev.lp (fun K j => impl_Digest_1_m.l3_eq K j x 3 _ _ _ _ _ _ _ _) ?_
  rw [rem0, w4]
  refine (Ev.yes (by decide) (Ev.no (by decide) (Ev.no (by decide) (Ev.no (by decide) (Ev.yes (by decide) (Ev.no (by decide) (Ev.no (by decide) (Ev.no (by decide) (Ev.yes (by decide) (Ev.yes (by decide) (Ev.no (by decide) (Ev.no (by decide) (Ev.no (by decide) (Ev.yes (by decide) ?_))))))))))))))
  show Ev (fun K j => impl_Digest_1_m.l3 K j x 4 (mixV a 1103515245 (wrap64 x) b) (mixV b 69069 (wrap64 x) c) (mixV c 1664525 (wrap64 x) d) (mixV d 22695477 (wrap64 x) (mixV a 1103515245 (wrap64 x) b)) 1103515245 69069 1664525 22695477) _
  exact Ev.lp (fun K j => impl_Digest_1_m.l3_eq K j x 4 _ _ _ _ _ _ _ _) (Ev.no (by decide) (Ev.now _))
/-! the digests -/
theorem wrap_byte {x : Int} (h : 0 ≤ x ∧ x ≤ 255) : wrap64 x = x := wrap_id (by omega) (by omega)
theorem impl_l71 (s : M4) : Ev (fun K j => impl_Digest_m.l71 K j s.1 s.2.1 s.2.2.1 s.2.2.2 0 []) (outV s, ()) := by
  obtain ⟨a, b, c, d⟩ := s
  refine Ev.lp (fun K j => impl_Digest_m.l71_eq K j a b c d 0 []) ?_
  rw [w1]
  refine Ev.yes (by decide) (Ev.yes (by decide) (Ev.bind (impl_bytes_ev a) (Ev.yes (by show 0 + 4 ≤ most 1; decide) ?_)))
  show Ev (fun K j => impl_Digest_m.l71 K j a b c d 1 (bytes4 a)) _
  refine Ev.lp (fun K j => impl_Digest_m.l71_eq K j a b c d 1 _) ?_
  rw [w2]
  refine Ev.yes (by decide) (Ev.no (by decide) (Ev.yes (by decide) (Ev.bind (impl_bytes_ev b) (Ev.yes (by show 4 + 4 ≤ most 1; decide) ?_))))
  show Ev (fun K j => impl_Digest_m.l71 K j a b c d 2 (bytes4 a ++ bytes4 b)) _
  refine Ev.lp (fun K j => impl_Digest_m.l71_eq K j a b c d 2 _) ?_
  rw [w3]
  refine Ev.yes (by decide) (Ev.no (by decide) (Ev.no (by decide) (Ev.yes (by decide) (Ev.bind (impl_bytes_ev c) (Ev.yes (by show 8 + 4 ≤ most 1; decide) ?_)))))
  show Ev (fun K j => impl_Digest_m.l71 K j a b c d 3 (bytes4 a ++ bytes4 b ++ bytes4 c)) _
  refine Ev.lp (fun K j => impl_Digest_m.l71_eq K j a b c d 3 _) ?_
  rw [w4]
  refine Ev.yes (by decide) (Ev.no (by decide) (Ev.no (by decide) (Ev.no (by decide) (Ev.yes (by decide) (Ev.bind (impl_bytes_ev d) (Ev.yes (by show 12 + 4 ≤ most 1; decide) ?_))))))
  show Ev (fun K j => impl_Digest_m.l71 K j a b c d 4 (outV (a, b, c, d))) _
  exact Ev.lp (fun K j => impl_Digest_m.l71_eq K j a b c d 4 _) (Ev.no (by decide) (Ev.now _))
theorem impl_l54 : ∀ (d i : Nat) (s : M4), 8 = i + d → Ev (fun K j => impl_Digest_m.l54 K j (i : Int) s.1 s.2.1 s.2.2.1 s.2.2.2 1103515245 69069 1664525 22695477) (outV ((List.replicate d (0 : Int)).foldl eatV s), ()) := by
  intro d
  induction d with
  | zero =>
    intro i s h
    exact Ev.lp (fun K j => impl_Digest_m.l54_eq K j _ _ _ _ _ _ _ _ _) (Ev.no (by omega) (impl_l71 s))
  | succ d ih =>
    intro i s h
    refine Ev.lp (fun K j => impl_Digest_m.l54_eq K j _ _ _ _ _ _ _ _ _) (Ev.yes (by omega) (Ev.bind (impl_eat_ev s 0) ?_))
    rw [wrap_nat (by omega), show wrap64 0 = 0 by kernel_rfl]
    exact ih (i + 1) (eatV s 0) (by omega)
theorem impl_l37 (l : List Int) (hl : l.length ≤ 1000000) (hb : isBytes l) : ∀ (d i : Nat) (s : M4), l.length = i + d →
    Ev (fun K j => impl_Digest_m.l37 K j (l.length : Int) (i : Int) s.1 s.2.1 s.2.2.1 s.2.2.2 1103515245 69069 1664525 22695477 l) (outV ((List.replicate 8 (0 : Int)).foldl eatV ((l.drop i).foldl eatV s)), ()) := by
  intro d
  induction d with
  | zero =>
    intro i s h
    rw [List.drop_eq_nil_of_le (by omega)]
    exact Ev.lp (fun K j => impl_Digest_m.l37_eq K j _ _ _ _ _ _ _ _ _ _ _) (Ev.no (by omega) (impl_l54 8 0 s rfl))
  | succ d ih =>
    intro i s h
    refine Ev.lp (fun K j => impl_Digest_m.l37_eq K j _ _ _ _ _ _ _ _ _ _ _) (Ev.yes (by omega) (Ev.yes (by omega) (Ev.bind (impl_eat_ev s _) ?_)))
    rw [rd_at 0 l i (by omega), wrap_nat (by omega), wrap_byte (hb _ (List.getElem_mem _)), List.drop_eq_getElem_cons (show i < l.length by omega)]
    exact ih (i + 1) (eatV s l[i]) (by omega)
theorem impl_l20 (l : List Int) (hl : l.length ≤ 1000000) (hb : isBytes l) : ∀ (d i : Nat) (s : M4), l.length = i + d →
    Ev (fun K j => impl_Digest_m.l20 K j l l (l.length : Int) (i : Int) s.1 s.2.1 s.2.2.1 s.2.2.2 1103515245 69069 1664525 22695477) (outV ((List.replicate 8 (0 : Int)).foldl eatV ((bytes4 (l.length : Int)).foldl eatV ((l.drop i).foldl eatV s))), ()) := by
  intro d
  induction d with
  | zero =>
    intro i s h
    rw [List.drop_eq_nil_of_le (by omega)]
    exact Ev.lp (fun K j => impl_Digest_m.l20_eq K j _ _ _ _ _ _ _ _ _ _ _ _) (Ev.no (by omega) (Ev.bind (impl_bytes_ev _) (impl_l37 (bytes4 (l.length : Int)) (by simp [bytes4]) (bytes4_bytes _) 4 0 s rfl)))
  | succ d ih =>
    intro i s h
    refine Ev.lp (fun K j => impl_Digest_m.l20_eq K j _ _ _ _ _ _ _ _ _ _ _ _) (Ev.yes (by omega) (Ev.yes (by omega) (Ev.bind (impl_eat_ev s _) ?_)))
    rw [rd_at 0 l i (by omega), wrap_nat (by omega), wrap_byte (hb _ (List.getElem_mem _)), List.drop_eq_getElem_cons (show i < l.length by omega)]
    exact ih (i + 1) (eatV s l[i]) (by omega)
theorem impl_digest_ev (l : List Int) (hl : l.length ≤ 20000) (hb : isBytes l) : Ev (fun K _ => impl_Digest_m.f K l) (digest l, ()) :=
  Ev.fn (fun k => impl_Digest_m.f_eq k l) (Ev.no (by omega) (Ev.diag (L := fun K j => impl_Digest_m.l20 K j l l (l.length : Int) ((0 : Nat) : Int) 11 22 33 44 1103515245 69069 1664525 22695477) (impl_l20 l (by omega) hb l.length 0 (11, 22, 33, 44) (by omega))))
theorem spec_l59 (s : M4) (h : Fit4 s) : Ev (fun K j => spec_l2Digest_m.l59 K j ((lst4 s).length : Int) 0 [] (lst4 s)) (outV s, ()) := by
  obtain ⟨a, b, c, d⟩ := s
  obtain ⟨h1, h2, h3, h4⟩ := h
  have h2 : 0 ≤ b ∧ b < 2147483579 := h2
  have h3 : 0 ≤ c ∧ c < 2147483579 := h3
  have h4 : 0 ≤ d ∧ d < 2147483579 := h4
  show Ev (fun K j => spec_l2Digest_m.l59 K j 4 0 [] [a, b, c, d]) _
  refine Ev.lp (fun K j => spec_l2Digest_m.l59_eq K j 4 0 [] _) ?_
  rw [w1]
  refine Ev.yes (by decide) (Ev.yes (by simp) (Ev.bind (spec_bytes_ev a (by omega) (by omega)) (Ev.yes (by show 0 + 4 ≤ most 1; decide) ?_)))
  show Ev (fun K j => spec_l2Digest_m.l59 K j 4 1 (bytes4 a) [a, b, c, d]) _
  refine Ev.lp (fun K j => spec_l2Digest_m.l59_eq K j 4 1 _ _) ?_
  rw [w2]
  refine Ev.yes (by decide) (Ev.yes (by simp) (Ev.bind (spec_bytes_ev b (by omega) (by omega)) (Ev.yes (by show 4 + 4 ≤ most 1; decide) ?_)))
  show Ev (fun K j => spec_l2Digest_m.l59 K j 4 2 (bytes4 a ++ bytes4 b) [a, b, c, d]) _
  refine Ev.lp (fun K j => spec_l2Digest_m.l59_eq K j 4 2 _ _) ?_
  rw [w3]
  refine Ev.yes (by decide) (Ev.yes (by simp) (Ev.bind (spec_bytes_ev c (by omega) (by omega)) (Ev.yes (by show 8 + 4 ≤ most 1; decide) ?_)))
  show Ev (fun K j => spec_l2Digest_m.l59 K j 4 3 (bytes4 a ++ bytes4 b ++ bytes4 c) [a, b, c, d]) _
  refine Ev.lp (fun K j => spec_l2Digest_m.l59_eq K j 4 3 _ _) ?_
  rw [w4]
  refine Ev.yes (by decide) (Ev.yes (by simp) (Ev.bind (spec_bytes_ev d (by omega) (by omega)) (Ev.yes (by show 12 + 4 ≤ most 1; decide) ?_)))
  show Ev (fun K j => spec_l2Digest_m.l59 K j 4 4 (outV (a, b, c, d)) [a, b, c, d]) _
  exact Ev.lp (fun K j => spec_l2Digest_m.l59_eq K j 4 4 _ _) (Ev.no (by decide) (Ev.now _))
theorem spec_l42 : ∀ (d i : Nat) (s : M4), 8 = i + d → Fit4 s → Ev (fun K j => spec_l2Digest_m.l42 K j (i : Int) (lst4 s)) (outV ((List.replicate d (0 : Int)).foldl eatV s), ()) := by
  intro d
  induction d with
  | zero =>
    intro i s h hs
    exact Ev.lp (fun K j => spec_l2Digest_m.l42_eq K j _ _) (Ev.no (by omega) (spec_l59 s hs))
  | succ d ih =>
    intro i s h hs
    refine Ev.lp (fun K j => spec_l2Digest_m.l42_eq K j _ _) (Ev.yes (by omega) (Ev.bind (spec_mix_ev s 0) ?_))
    rw [wrap_nat (by omega)]
    exact ih (i + 1) (eatV s 0) (by omega) (eatV_fit hs (by omega))
theorem spec_l25 (l : List Int) (hl : l.length ≤ 1000000) (hb : isBytes l) : ∀ (d i : Nat) (s : M4), l.length = i + d → Fit4 s →
    Ev (fun K j => spec_l2Digest_m.l25 K j (l.length : Int) (i : Int) (lst4 s) l) (outV ((List.replicate 8 (0 : Int)).foldl eatV ((l.drop i).foldl eatV s)), ()) := by
  intro d
  induction d with
  | zero =>
    intro i s h hs
    rw [List.drop_eq_nil_of_le (by omega)]
    exact Ev.lp (fun K j => spec_l2Digest_m.l25_eq K j _ _ _ _) (Ev.no (by omega) (spec_l42 8 0 s rfl hs))
  | succ d ih =>
    intro i s h hs
    refine Ev.lp (fun K j => spec_l2Digest_m.l25_eq K j _ _ _ _) (Ev.yes (by omega) (Ev.yes (by omega) (Ev.bind (spec_mix_ev s _) ?_)))
    rw [rd_at 0 l i (by omega), wrap_nat (by omega), wrap_byte (hb _ (List.getElem_mem _)), List.drop_eq_getElem_cons (show i < l.length by omega)]
    exact ih (i + 1) (eatV s l[i]) (by omega) (eatV_fit hs (hb _ (List.getElem_mem _)))
theorem spec_l8 (l : List Int) (hl : l.length ≤ 1000000) (hb : isBytes l) : ∀ (d i : Nat) (s : M4), l.length = i + d → Fit4 s →
    Ev (fun K j => spec_l2Digest_m.l8 K j l l (l.length : Int) (i : Int) (lst4 s)) (outV ((List.replicate 8 (0 : Int)).foldl eatV ((bytes4 (l.length : Int)).foldl eatV ((l.drop i).foldl eatV s))), ()) := by
  intro d
  induction d with
  | zero =>
    intro i s h hs
    rw [List.drop_eq_nil_of_le (by omega)]
    exact Ev.lp (fun K j => spec_l2Digest_m.l8_eq K j _ _ _ _ _) (Ev.no (by omega) (Ev.bind (spec_bytes_ev _ (by omega) (by omega)) (spec_l25 (bytes4 (l.length : Int)) (by simp [bytes4]) (bytes4_bytes _) 4 0 s rfl hs)))
  | succ d ih =>
    intro i s h hs
    refine Ev.lp (fun K j => spec_l2Digest_m.l8_eq K j _ _ _ _ _) (Ev.yes (by omega) (Ev.yes (by omega) (Ev.bind (spec_mix_ev s _) ?_)))
    rw [rd_at 0 l i (by omega), wrap_nat (by omega), wrap_byte (hb _ (List.getElem_mem _)), List.drop_eq_getElem_cons (show i < l.length by omega)]
    exact ih (i + 1) (eatV s l[i]) (by omega) (eatV_fit hs (hb _ (List.getElem_mem _)))
theorem spec_digest_ev (l : List Int) (hl : l.length ≤ 1000000) (hb : isBytes l) : Ev (fun K _ => spec_l2Digest_m.f K l) (digest l, ()) :=
  Ev.fn (fun k => spec_l2Digest_m.f_eq k l) (Ev.diag (L := fun K j => spec_l2Digest_m.l8 K j l l (l.length : Int) ((0 : Nat) : Int) [11, 22, 33, 44]) (spec_l8 l (by omega) hb l.length 0 (11, 22, 33, 44) (by omega) ⟨by decide, by decide, by decide, by decide⟩))
/-! the sums of two -/
def macV (a b : List Int) : List Int := digest (digest a ++ digest b)
theorem macV_len (a b : List Int) : (macV a b).length = 16 := rfl
theorem macV_bytes (a b : List Int) : isBytes (macV a b) := digest_bytes _
theorem impl_mac_ev (a b : List Int) (ha : a.length ≤ 20000) (hb : b.length ≤ 20000) (ba : isBytes a) (bb : isBytes b) : Ev (fun K _ => impl_Mac_m.f K a b) (macV a b, ()) :=
  Ev.fn (fun k => impl_Mac_m.f_eq k a b) (Ev.no (by omega) (Ev.no (by omega) (Ev.bind (impl_digest_ev a ha ba) (Ev.bind (impl_digest_ev b hb bb) (Ev.yes (by show 16 + 16 ≤ most 1; decide) (Ev.tail (impl_digest_ev (digest a ++ digest b) (by rw [List.length_append]; show 16 + 16 ≤ _; omega) (cat_bytes (digest_bytes a) (digest_bytes b)))))))))
theorem spec_two_ev (a b : List Int) (ha : a.length = 16) (hb : b.length = 16) (ba : isBytes a) (bb : isBytes b) : Ev (fun K _ => spec_l2Two_m.f K a b) (digest (a ++ b), ()) :=
  Ev.fn (fun k => spec_l2Two_m.f_eq k a b) (Ev.yes (by rw [ha]; decide) (Ev.yes (by rw [ha, hb]; decide) (Ev.tail (spec_digest_ev (a ++ b) (by rw [List.length_append]; omega) (cat_bytes ba bb)))))
theorem spec_mac_ev (a b : List Int) (ha : a.length ≤ 20000) (hb : b.length ≤ 20000) (ba : isBytes a) (bb : isBytes b) : Ev (fun K _ => spec_l2Mac_m.f K a b) (macV a b, ()) :=
  Ev.fn (fun k => spec_l2Mac_m.f_eq k a b) (Ev.bind (spec_digest_ev a (by omega) ba) (Ev.bind (spec_digest_ev b (by omega) bb) (Ev.tail (spec_two_ev _ _ rfl rfl (digest_bytes a) (digest_bytes b)))))

open Arm
/-! ### Armor -/
theorem rdI_nat (l : List Int) (i : Nat) (h : i < l.length) : rdI l (i : Int) = l[i] := by
  unfold rdI
  rw [Int.toNat_natCast, List.getD_eq_getElem?_getD, List.getElem?_eq_getElem h]; rfl
theorem rd_rdI (l : List Int) (i : Int) : rd (0 : Int) l i = rdI l i := rfl
/-! ### bits of whole numbers -/
theorem wraps_i64 (n : Int) (h₀ : 0 ≤ n) (h₁ : n < 2 ^ 63) : IntKind.i64.wrap n = n := by rw [IntKind.wrap_i64]; omega
theorem i64_mask (j : Nat) (hj : j ≤ 63) (x : Int) (h₀ : 0 ≤ x) (h₁ : x < 9223372036854775808) : Go.bits .and .i64 x (2 ^ j - 1) = x % 2 ^ j :=
  bits_mask .i64 63 (by decide) wraps_i64 j hj x h₀ (by omega)
theorem i64_and1 (x : Int) (h₀ : 0 ≤ x) (h₁ : x < 9223372036854775808) : Go.bits .and .i64 x 1 = x % 2 := i64_mask 1 (by decide) x h₀ h₁
theorem i64_join (j : Nat) (x y : Int) (hx₀ : 0 ≤ x) (hx : x % 2 ^ j = 0) (hx₁ : x < 9223372036854775808) (hy₀ : 0 ≤ y) (hy : y < 2 ^ j) (hy₁ : y < 9223372036854775808) : Go.bits .or .i64 x y = x + y :=
  bits_join .i64 63 (by decide) wraps_i64 j x y hx₀ hx (by omega) hy₀ hy (by omega)
def bitAt (l : List Int) (k : Nat) : Int := if k < 8 * l.length then rdI l ((k / 8 : Nat) : Int) / 2 ^ (7 - k % 8) % 2 else 0
def valF (f : Nat → Int) (p : Nat) : Nat → Int
  | 0 => 0
  | m + 1 => valF f p m * 2 + f (p + m)
theorem valF_add (f : Nat → Int) (p m : Nat) : ∀ n, valF f p (m + n) = valF f p m * 2 ^ n + valF f (p + m) n
  | 0 => by simp [valF]
  | n + 1 => by
    rw [← Nat.add_assoc]
    show valF f p (m + n) * 2 + f (p + (m + n)) = valF f p m * 2 ^ (n + 1) + (valF f (p + m) n * 2 + f (p + m + n))
    rw [valF_add f p m n, Int.pow_succ, Int.add_mul, Int.mul_assoc, Int.add_assoc, Nat.add_assoc]
theorem valF_range {f : Nat → Int} (hf : ∀ k, 0 ≤ f k ∧ f k ≤ 1) (p : Nat) : ∀ n, 0 ≤ valF f p n ∧ valF f p n < 2 ^ n
  | 0 => ⟨Int.le_refl _, (show (0 : Int) < 2 ^ 0 by decide)⟩
  | n + 1 => by
    have h := valF_range hf p n
    have g := hf (p + n)
    rw [Int.pow_succ]
    show 0 ≤ valF f p n * 2 + f (p + n) ∧ valF f p n * 2 + f (p + n) < 2 ^ n * 2
    omega
theorem two_pos (n : Nat) : (0 : Int) < 2 ^ n := Int.pow_pos (by decide)
theorem valF_div {f : Nat → Int} (hf : ∀ k, 0 ≤ f k ∧ f k ≤ 1) (p m n : Nat) : valF f p (m + n) / 2 ^ n = valF f p m := by
  have h := valF_range hf (p + m) n
  have g := two_pos n
  rw [valF_add, Int.add_comm, Int.add_mul_ediv_right _ _ (by omega), Int.ediv_eq_zero_of_lt h.1 h.2, Int.zero_add]
theorem valF_mod {f : Nat → Int} (hf : ∀ k, 0 ≤ f k ∧ f k ≤ 1) (p m n : Nat) : valF f p (m + n) % 2 ^ n = valF f (p + m) n := by
  have h := valF_range hf (p + m) n
  rw [valF_add, Int.add_comm, Int.add_mul_emod_self_right, Int.emod_eq_of_lt h.1 h.2]
theorem valF_none {f : Nat → Int} (p : Nat) : ∀ n, (∀ k, p ≤ k → f k = 0) → valF f p n = 0
  | 0, _ => rfl
  | n + 1, h => by
    show valF f p n * 2 + f (p + n) = 0
    rw [valF_none p n h, h _ (by omega)]; rfl
theorem bitAt_range (l : List Int) (k : Nat) : 0 ≤ bitAt l k ∧ bitAt l k ≤ 1 := by
  unfold bitAt
  split <;> omega
theorem bitAt_eq (l : List Int) (i j : Nat) (hi : i < l.length) (hj : j < 8) : bitAt l (8 * i + j) = rdI l (i : Int) / 2 ^ (7 - j) % 2 := by
  unfold bitAt
  rw [if_pos (by omega), show (8 * i + j) / 8 = i by omega, show (8 * i + j) % 8 = j by omega]
theorem valF_byte (l : List Int) (hb : ∀ x ∈ l, 0 ≤ x ∧ x ≤ 255) (i : Nat) (hi : i < l.length) : valF (bitAt l) (8 * i) 8 = rdI l (i : Int) := by
  have hx : 0 ≤ rdI l (i : Int) ∧ rdI l (i : Int) ≤ 255 := by rw [rdI_nat l i hi]; exact hb _ (List.getElem_mem hi)
  simp only [valF]
  rw [bitAt_eq l i 0 hi (by omega), bitAt_eq l i 1 hi (by omega), bitAt_eq l i 2 hi (by omega), bitAt_eq l i 3 hi (by omega), bitAt_eq l i 4 hi (by omega), bitAt_eq l i 5 hi (by omega), bitAt_eq l i 6 hi (by omega), bitAt_eq l i 7 hi (by omega)]
  rw [show ((2 : Int) ^ (7 - 0)) = 128 by decide, show ((2 : Int) ^ (7 - 1)) = 64 by decide, show ((2 : Int) ^ (7 - 2)) = 32 by decide, show ((2 : Int) ^ (7 - 3)) = 16 by decide, show ((2 : Int) ^ (7 - 4)) = 8 by decide, show ((2 : Int) ^ (7 - 5)) = 4 by decide, show ((2 : Int) ^ (7 - 6)) = 2 by decide, show ((2 : Int) ^ (7 - 7)) = 1 by decide]
  omega
def chN (n : Int) : UInt8 := yarm.data.getD n.toNat 0
theorem chB_eq (x : Int) (h0 : 0 ≤ x) (h1 : x < 9223372036854775808) : chB x = chN (x % 32) := by
  have e : Go.bits .and .i64 x 31 = x % 32 := i64_mask 5 (by decide) x h0 h1
  unfold chB chN
  have hlt : (x % 32).toNat < yarm.data.size := by show _ < 32; omega
  rw [← Array.getElem_eq_getD (h := hlt)]
  simp only [e]
  rfl
def outs (f : Nat → Int) (q : Nat) : List UInt8 := (List.range q).map fun j => chN (valF f (5 * j) 5)
theorem outs_succ (f : Nat → Int) (q : Nat) : outs f (q + 1) = outs f q ++ [chN (valF f (5 * q) 5)] := by
  unfold outs
  rw [List.range_succ, List.map_append]; rfl
theorem pow_small (n : Nat) (h : n ≤ 12) : (2 : Int) ^ n ≤ 4096 := by
  have : (2 : Int) ^ n ≤ 2 ^ 12 := by
    have z := Nat.pow_le_pow_right (show 0 < 2 by decide) h
    exact_mod_cast z
  exact this
theorem arF_val {f : Nat → Int} (hf : ∀ k, 0 ≤ f k ∧ f k ≤ 1) (q0 B : Nat) (hB : B ≤ 12) : ∀ (n b' q' : Nat), 5 * q' + b' = 5 * q0 + B → q0 ≤ q' → b' < 5 * n + 5 →
    arF (valF f (5 * q0) B) n (b' : Int) (outs f q') = ((((5 * q0 + B) % 5 : Nat) : Int), outs f ((5 * q0 + B) / 5)) := by
  intro n
  induction n with
  | zero =>
    intro b' q' he hq hb
    rw [arF_stop _ _ _ _ (by omega), show (5 * q0 + B) % 5 = b' by omega, show (5 * q0 + B) / 5 = q' by omega]
  | succ n ih =>
    intro b' q' he hq hb
    by_cases h5 : 5 ≤ b'
    · rw [arF_step _ _ _ _ (by omega), show ((b' : Int) - 5) = ((b' - 5 : Nat) : Int) by omega, Int.toNat_natCast, Nat.min_eq_left (by omega)]
      have eB : B = (5 * q' - 5 * q0 + 5) + (b' - 5) := by omega
      have e : valF f (5 * q0) B / 2 ^ (b' - 5) = valF f (5 * q0) (5 * q' - 5 * q0 + 5) := by
        conv => lhs; rw [eB]
        exact valF_div hf _ _ _
      have hr := valF_range hf (5 * q0) (5 * q' - 5 * q0 + 5)
      have hs := pow_small (5 * q' - 5 * q0 + 5) (by omega)
      rw [e, chB_eq _ hr.1 (by omega)]
      have m := valF_mod hf (5 * q0) (5 * q' - 5 * q0) 5
      rw [show 5 * q0 + (5 * q' - 5 * q0) = 5 * q' by omega] at m
      rw [show valF f (5 * q0) (5 * q' - 5 * q0 + 5) % 32 = valF f (5 * q') 5 from m, ← outs_succ]
      exact ih (b' - 5) (q' + 1) (by omega) (by omega) (by omega)
    · rw [arF_stop _ _ _ _ (by omega), show (5 * q0 + B) % 5 = b' by omega, show (5 * q0 + B) / 5 = q' by omega]
theorem mask_val (b : Nat) (h : b < 5) : wrap64 (wrap64 (2 ^ min ((b : Int)).toNat 64) - 1) = 2 ^ b - 1 := by
  rw [Int.toNat_natCast]
  have e : b = 0 ∨ b = 1 ∨ b = 2 ∨ b = 3 ∨ b = 4 := by omega
  rcases e with rfl | rfl | rfl | rfl | rfl <;> (unfold wrap64; decide)
theorem armor_state (l : List Int) (hb : ∀ x ∈ l, 0 ≤ x ∧ x ≤ 255) : ∀ i, i ≤ l.length → (l.take i).foldl arS ⟨0, 0, []⟩ = ⟨valF (bitAt l) (5 * (8 * i / 5)) (8 * i % 5), ((8 * i % 5 : Nat) : Int), outs (bitAt l) (8 * i / 5)⟩
  | 0, _ => rfl
  | i + 1, hi => by
    have hf := bitAt_range l
    rw [foldl_stepA l i (by omega), armor_state l hb i (by omega)]
    have hx : 0 ≤ rdI l (i : Int) ∧ rdI l (i : Int) ≤ 255 := by rw [rdI_nat l i (by omega)]; exact hb _ (List.getElem_mem (by omega))
    have hr := valF_range hf (5 * (8 * i / 5)) (8 * i % 5)
    have hs := pow_small (8 * i % 5) (by omega)
    have V : Go.bits .or .i64 (wrap64 (valF (bitAt l) (5 * (8 * i / 5)) (8 * i % 5) * 256)) (wrap64 (rdI l (i : Int))) = valF (bitAt l) (5 * (8 * i / 5)) (8 * i % 5 + 8) := by
      rw [wrap_id (by omega) (by omega), wrap_id (by omega) (by omega), i64_join 8 _ _ (by omega) (by omega) (by omega) (by omega) (by omega) (by omega), valF_add, show 5 * (8 * i / 5) + 8 * i % 5 = 8 * i by omega, valF_byte l hb i (by omega)]
      rfl
    have A := arF_val hf (8 * i / 5) (8 * i % 5 + 8) (by omega) 3 (8 * i % 5 + 8) (8 * i / 5) rfl (Nat.le_refl _) (by omega)
    rw [show 5 * (8 * i / 5) + (8 * i % 5 + 8) = 8 * (i + 1) by omega] at A
    simp only [arS]
    rw [V, show (((8 * i % 5 : Nat) : Int) + 8) = ((8 * i % 5 + 8 : Nat) : Int) by omega, A]
    simp only []
    rw [mask_val _ (by omega)]
    have hr2 := valF_range hf (5 * (8 * i / 5)) (8 * i % 5 + 8)
    have hs2 := pow_small (8 * i % 5 + 8) (by omega)
    rw [i64_mask (8 * (i + 1) % 5) (by omega) _ hr2.1 (by omega)]
    have m := valF_mod hf (5 * (8 * i / 5)) (8 * i % 5 + 8 - 8 * (i + 1) % 5) (8 * (i + 1) % 5)
    rw [show 8 * i % 5 + 8 - 8 * (i + 1) % 5 + 8 * (i + 1) % 5 = 8 * i % 5 + 8 by omega, show 5 * (8 * i / 5) + (8 * i % 5 + 8 - 8 * (i + 1) % 5) = 5 * (8 * (i + 1) / 5) by omega] at m
    rw [m]
theorem armorL_eq (l : List Int) (hb : ∀ x ∈ l, 0 ≤ x ∧ x ≤ 255) : armorL l = outs (bitAt l) ((8 * l.length + 4) / 5) := by
  have hf := bitAt_range l
  have S := armor_state l hb l.length (Nat.le_refl _)
  rw [List.take_length] at S
  unfold armorL
  rw [S]
  simp only []
  by_cases hp : ((8 * l.length % 5 : Nat) : Int) > 0
  · rw [if_pos hp, show (5 - ((8 * l.length % 5 : Nat) : Int)) = ((5 - 8 * l.length % 5 : Nat) : Int) by omega, Int.toNat_natCast, Nat.min_eq_left (by omega)]
    have e := valF_add (bitAt l) (5 * (8 * l.length / 5)) (8 * l.length % 5) (5 - 8 * l.length % 5)
    rw [show 5 * (8 * l.length / 5) + 8 * l.length % 5 = 8 * l.length by omega, valF_none (8 * l.length) _ (fun k hk => by unfold bitAt; rw [if_neg (by omega)]), Int.add_zero, show 8 * l.length % 5 + (5 - 8 * l.length % 5) = 5 by omega] at e
    have hr := valF_range hf (5 * (8 * l.length / 5)) 5
    rw [show ((2 : Int) ^ 5) = 32 by decide] at hr
    rw [← e, wrap_id (by omega) (by omega), chB_eq _ hr.1 (by omega), Int.emod_eq_of_lt hr.1 hr.2, ← outs_succ, show 8 * l.length / 5 + 1 = (8 * l.length + 4) / 5 by omega]
  · rw [if_neg hp, show 8 * l.length / 5 = (8 * l.length + 4) / 5 by omega]
/-! the reference's -/
def letters : ByteArray := ⟨#[48, 49, 50, 51, 52, 53, 54, 55, 56, 57, 97, 98, 99, 100, 101, 102, 103, 104, 105, 106, 107, 108, 109, 110, 111, 112, 113, 114, 115, 116, 117, 118]⟩
def outN (f : Nat → Int) (q : Nat) : List Int := (List.range q).map fun j => bt letters (valF f (5 * j) 5)
theorem outN_succ (f : Nat → Int) (q : Nat) : outN f (q + 1) = outN f q ++ [bt letters (valF f (5 * q) 5)] := by
  unfold outN
  rw [List.range_succ, List.map_append]; rfl
theorem letter_eq : ∀ n : Fin 32, UInt8.ofNat (bt letters ((n.val : Nat) : Int)).toNat = chN ((n.val : Nat) : Int) := by decide
theorem str_eq {f : Nat → Int} (hf : ∀ k, 0 ≤ f k ∧ f k ≤ 1) (q : Nat) : utfB (outN f q) = ⟨(outs f q).toArray⟩ := by
  unfold utfB outN outs
  rw [List.map_map]
  congr 2
  refine List.map_congr_left fun j _ => ?_
  have hr := valF_range hf (5 * j) 5
  rw [show ((2 : Int) ^ 5) = 32 by decide] at hr
  have z := letter_eq ⟨(valF f (5 * j) 5).toNat, by omega⟩
  rw [show (((valF f (5 * j) 5).toNat : Nat) : Int) = valF f (5 * j) 5 by omega] at z
  exact z
theorem wr_u64 (i : Nat) (h : i < 9000000000000000000) : wr .u64 (i : Int) = (i : Int) := by
  show IntKind.u64.wrap (i : Int) = _
  simp [IntKind.wrap, IntKind.bits, IntKind.signed]; omega
theorem bits_and1 (x : Int) (h0 : 0 ≤ x) (h1 : x < 9223372036854775808) : Go.bits .and .i64 x 1 = x % 2 := i64_mask 1 (by decide) x h0 h1
theorem spec_a23 (l : List Int) (hl : l.length ≤ 20000) (hb : isBytes l) (y : List Int) (j : Nat) (h3 : y.length ≤ 100000) (hj : 5 * j < 8 * l.length) {r : ByteArray}
    (go : Ev (fun K t => spec_l2Armor.l8 K t l ((5 * (j + 1) : Nat) : Int) (y ++ [bt letters (valF (bitAt l) (5 * j) 5)])) r) :
    ∀ (d m : Nat), 5 = m + d → Ev (fun K t => spec_l2Armor.l23 K t l ((5 * j : Nat) : Int) (valF (bitAt l) (5 * j) m) ((5 * j + m : Nat) : Int) y) r := by
  have hf := bitAt_range l
  have hw : wrap64 ((l.length : Int) * 8) = ((8 * l.length : Nat) : Int) := by rw [wrap_id (by omega) (by omega)]; omega
  have hw5 : wrap64 (((5 * j : Nat) : Int) + 5) = ((5 * (j + 1) : Nat) : Int) := by rw [wrap_id (by omega) (by omega)]; omega
  intro d
  induction d with
  | zero =>
    intro m h
    obtain rfl : m = 5 := by omega
    have hr := valF_range hf (5 * j) 5
    rw [show ((2 : Int) ^ 5) = 32 by decide] at hr
    refine Ev.lp (fun K t => spec_l2Armor.l23_eq K t l _ _ _ y) ?_
    rw [hw5]
    refine Ev.no (by omega) (Ev.bind (Ev.fn (fun k => spec_l2Letters.f_eq k) (Ev.now letters)) (Ev.yes ⟨hr.1, by show _ < ((32 : Nat) : Int); omega⟩ (Ev.yes (by show y.length + 1 ≤ 17592186044416; omega) go)))
  | succ d ih =>
    intro m h
    have hr := valF_range hf (5 * j) m
    have hs := pow_small m (by omega)
    have z := ih (m + 1) (by omega)
    refine Ev.lp (fun K t => spec_l2Armor.l23_eq K t l _ _ _ y) ?_
    rw [hw5, hw, wrap_nat (by omega)]
    refine Ev.yes (by omega) (Ev.ite (fun hk => ?_) fun hk => ?_)
    · have hk : 5 * j + m < 8 * l.length := by omega
      have t1 : wrap64 (quoI ((5 * j + m : Nat) : Int) 8) = (((5 * j + m) / 8 : Nat) : Int) := by
        unfold quoI
        rw [Int.tdiv_eq_ediv_of_nonneg (by omega), wrap_id (by omega) (by omega)]; omega
      have t2 : wr .u64 (wrap64 (7 - remI ((5 * j + m : Nat) : Int) 8)) = ((7 - (5 * j + m) % 8 : Nat) : Int) := by
        unfold remI
        rw [Int.tmod_eq_emod_of_nonneg (by omega), wrap_id (by omega) (by omega), show (7 - ((5 * j + m : Nat) : Int) % 8) = ((7 - (5 * j + m) % 8 : Nat) : Int) by omega, wr_u64 _ (by omega)]
      have hx : 0 ≤ rdI l (((5 * j + m) / 8 : Nat) : Int) ∧ rdI l (((5 * j + m) / 8 : Nat) : Int) ≤ 255 := by rw [rdI_nat l _ (by omega)]; exact hb _ (List.getElem_mem (by omega))
      have hd : 0 ≤ rdI l (((5 * j + m) / 8 : Nat) : Int) / 2 ^ (7 - (5 * j + m) % 8) ∧ rdI l (((5 * j + m) / 8 : Nat) : Int) / 2 ^ (7 - (5 * j + m) % 8) ≤ 255 :=
        ⟨Int.ediv_nonneg hx.1 (Int.le_of_lt (two_pos _)), Int.le_trans (Int.ediv_le_self _ hx.1) hx.2⟩
      rw [t1, t2, rd_rdI]
      refine Ev.yes (by omega) (Ev.no (by omega) ?_)
      rw [wrap_id (x := rdI l _) (by omega) (by omega), shr_div _ _ (by omega), bits_and1 _ hd.1 (by omega), wrap_id (x := valF _ _ _ * 2) (by omega) (by omega), wrap_id (by omega) (by omega)]
      have e : valF (bitAt l) (5 * j) m * 2 + rdI l (((5 * j + m) / 8 : Nat) : Int) / 2 ^ (7 - (5 * j + m) % 8) % 2 = valF (bitAt l) (5 * j) (m + 1) := by
        show _ = valF (bitAt l) (5 * j) m * 2 + bitAt l (5 * j + m)
        unfold bitAt
        rw [if_pos hk]
      rw [e]; exact z
    · have e : valF (bitAt l) (5 * j) m * 2 = valF (bitAt l) (5 * j) (m + 1) := by
        show _ = valF (bitAt l) (5 * j) m * 2 + bitAt l (5 * j + m)
        unfold bitAt
        rw [if_neg (by omega), Int.add_zero]
      rw [wrap_id (x := valF _ _ _ * 2) (by omega) (by omega), e]; exact z
theorem spec_a8 (l : List Int) (hl : l.length ≤ 20000) (hb : isBytes l) : ∀ (d j : Nat), (8 * l.length + 4) / 5 = j + d → Ev (fun K t => spec_l2Armor.l8 K t l ((5 * j : Nat) : Int) (outN (bitAt l) j)) (utfB (outN (bitAt l) ((8 * l.length + 4) / 5))) := by
  have hw : wrap64 ((l.length : Int) * 8) = ((8 * l.length : Nat) : Int) := by rw [wrap_id (by omega) (by omega)]; omega
  intro d
  induction d with
  | zero =>
    intro j h
    refine Ev.lp (fun K t => spec_l2Armor.l8_eq K t l _ _) ?_
    rw [hw]
    refine Ev.no (by omega) (Ev.some ?_)
    rw [show (8 * l.length + 4) / 5 = j by omega]
  | succ d ih =>
    intro j h
    refine Ev.lp (fun K t => spec_l2Armor.l8_eq K t l _ _) ?_
    rw [hw]
    refine Ev.yes (by omega) ?_
    have z := ih (j + 1) (by omega)
    rw [outN_succ] at z
    exact spec_a23 l hl hb _ j (by simp [outN]; omega) (by omega) z 5 0 rfl
theorem armor_ev (l : List Int) (hl : l.length ≤ 20000) (hb : isBytes l) : Ev (fun K _ => spec_l2Armor.f K l) (armorS l) ∧ Ev (fun K _ => impl_Armor.f K l) (armorS l) := by
  constructor
  · have e : armorS l = utfB (outN (bitAt l) ((8 * l.length + 4) / 5)) := by
      unfold armorS
      rw [armorL_eq l hb, str_eq (bitAt_range l)]
    rw [e]
    exact Ev.fn (fun k => spec_l2Armor.f_eq k l) (Ev.diag (L := fun K t => spec_l2Armor.l8 K t l ((5 * 0 : Nat) : Int) (outN (bitAt l) 0)) (spec_a8 l hl hb ((8 * l.length + 4) / 5) 0 (by omega)))
  · exact Ev.fn (fun k => impl_Armor.f_eq k l) (Ev.yes hl (Ev.now _))

/-! ### a whole number's text -/
theorem appS_mk (a b : List UInt8) : appS ⟨a.toArray⟩ ⟨b.toArray⟩ = ⟨(a ++ b).toArray⟩ := by
  unfold appS
  apply ByteArray.ext
  simp
theorem appS_size (a b : ByteArray) : (appS a b).size = a.size + b.size := by
  unfold appS
  exact ByteArray.size_append
theorem dec_step (u : Nat) (h : ¬ u < 10) : Go.Lib.decDigits u = Go.Lib.decDigits (u / 10) ++ [UInt8.ofNat (48 + u % 10)] := by
  rw [Go.Lib.decDigits, dif_neg h]
theorem dec_len : ∀ (k u : Nat), u < 10 ^ (k + 1) → (Go.Lib.decDigits u).length ≤ k + 1
  | 0, u, h => by rw [Go.Lib.decDigits_one (by simpa using h)]; simp
  | k + 1, u, h => by
    by_cases hu : u < 10
    · rw [Go.Lib.decDigits_one hu]; simp
    · rw [dec_step u hu, List.length_append]
      have := dec_len k (u / 10) (by
        rw [Nat.pow_succ] at h
        exact Nat.div_lt_of_lt_mul (by rw [Nat.mul_comm]; exact h))
      simp; omega
theorem itoaS_nat (u : Nat) : itoaS (u : Int) = ⟨(Go.Lib.decDigits u).toArray⟩ := by
  unfold itoaS Go.Lib.itoa
  rw [if_neg (by omega)]; simp
def numD (u : Nat) : List UInt8 := if u = 0 then [] else Go.Lib.decDigits u
theorem numD_step (u : Nat) (h : u ≠ 0) : numD u = numD (u / 10) ++ [UInt8.ofNat (48 + u % 10)] := by
  unfold numD
  rw [if_neg h]
  by_cases hu : u < 10
  · rw [if_pos (by omega), Go.Lib.decDigits_one hu, Nat.mod_eq_of_lt hu]; rfl
  · rw [if_neg (by omega), dec_step u hu]
theorem utfB_one (n : Nat) (h : n < 256) : utfB [(n : Int)] = ⟨[UInt8.ofNat n].toArray⟩ := by
  unfold utfB
  simp
theorem spec_l14 : ∀ (u : Nat) (acc : List UInt8), u + acc.length ≤ 4000000000000000000 → Ev (fun K j => spec_l1Size.l14 K j (u : Int) ⟨acc.toArray⟩) ⟨(numD u ++ acc).toArray⟩ := by
  intro u
  induction u using Nat.strongRecOn with
  | ind u ih =>
    intro acc hs
    refine Ev.lp (fun K j => spec_l1Size.l14_eq K j _ _) ?_
    by_cases h0 : u = 0
    · subst h0
      exact Ev.yes rfl (Ev.now _)
    · have e1 : remI (u : Int) 10 = ((u % 10 : Nat) : Int) := by
        unfold remI
        rw [Int.tmod_eq_emod_of_nonneg (by omega)]; omega
      have e2 : wrap64 (quoI (u : Int) 10) = ((u / 10 : Nat) : Int) := by
        unfold quoI
        rw [Int.tdiv_eq_ediv_of_nonneg (by omega), wrap_id (by omega) (by omega)]; omega
      have e3 : wr .u8 (wrap64 (48 + ((u % 10 : Nat) : Int))) = ((48 + u % 10 : Nat) : Int) := by
        rw [wrap_id (by omega) (by omega)]
        show IntKind.u8.wrap _ = _
        rw [IntKind.wrap_u8]; omega
      rw [e1, e2, e3]
      have hsz : (utfB [((48 + u % 10 : Nat) : Int)]).size + (⟨acc.toArray⟩ : ByteArray).size ≤ lim := by
        rw [utfB_one _ (by omega)]
        show 1 + acc.length ≤ 4611686018427387904
        omega
      refine Ev.no (by omega) (Ev.no (by omega) (Ev.yes hsz ?_))
      rw [utfB_one _ (by omega), appS_mk]
      have z := ih (u / 10) (by omega) ([UInt8.ofNat (48 + u % 10)] ++ acc) (by simp; omega)
      rw [← List.append_assoc, ← numD_step u h0] at z
      exact z
theorem spec_num_ev (u : Nat) (hu : u ≤ 4000000000000000000) : Ev (fun K _ => spec_l1Num.f K (u : Int)) (itoaS (u : Int)) := by
  refine Ev.fn (fun k => spec_l1Num.f_eq k _) (Ev.no (by omega) (Ev.tail ?_))
  refine Ev.fn (fun k => spec_l1Size.f_eq k _) (Ev.ite (fun h => Ev.some ?_) fun h => ?_)
  · have : u = 0 := by omega
    subst this
    rw [itoaS_nat, Go.Lib.decDigits_one (by omega)]
    rfl
  · have z := spec_l14 u [] (by simpa using hu)
    rw [List.append_nil] at z
    unfold numD at z
    rw [if_neg (by omega)] at z
    rw [itoaS_nat]
    exact Ev.diag (L := fun K j => spec_l1Size.l14 K j (u : Int) ⟨#[]⟩) z

theorem sec_ev (a : Int) : Ev (fun K _ => spec_l2Secret.f K a) (decide (1 ≤ a ∧ a < 1073741789)) ∧ Ev (fun K _ => impl_ysecret.f K a) (decide (1 ≤ a ∧ a < 1073741789)) := by
  constructor
  · refine Ev.fn (fun k => spec_l2Secret.f_eq k a) (Ev.ite (fun h => Ev.some ?_) fun h => Ev.some ?_)
    · simp; omega
    · simp; omega
  · refine Ev.fn (fun k => impl_ysecret.f_eq k a) (Ev.ite (fun h => Ev.some ?_) fun h => Ev.some ?_)
    · simp; omega
    · simp; omega
theorem armorS_size (l : List Int) (hl : l.length = 8) (hb : isBytes l) : (armorS l).size = 13 := by
  unfold armorS
  rw [armorL_eq l hb, hl]
  show (outs (bitAt l) 13).length = 13
  simp [outs]
theorem token_ev (a0 a1 : Int) (h0 : -9223372036854775808 ≤ a1 ∧ a1 ≤ 9223372036854775807) : ∃ t, Ev (fun K _ => spec_TokenOf.f K a0 a1) t ∧ Ev (fun K _ => impl_TokenOf.f K a0 a1) t := by
  obtain ⟨s1, s2⟩ := sec_ev a0
  by_cases hs : 1 ≤ a0 ∧ a0 < 1073741789
  · rw [decide_eq_true hs] at s1 s2
    by_cases hn : a1 < 0
    · exact ⟨_, Ev.fn (fun k => spec_TokenOf.f_eq k a0 a1) (Ev.bind s1 (Ev.yes rfl (Ev.yes hn (Ev.now _)))), Ev.fn (fun k => impl_TokenOf.f_eq k a0 a1) (Ev.bind s2 (Ev.yes rfl (Ev.yes hn (Ev.now _))))⟩
    by_cases hm : a1 > 1000000
    · exact ⟨_, Ev.fn (fun k => spec_TokenOf.f_eq k a0 a1) (Ev.bind s1 (Ev.yes rfl (Ev.no hn (Ev.yes hm (Ev.now _))))), Ev.fn (fun k => impl_TokenOf.f_eq k a0 a1) (Ev.bind s2 (Ev.yes rfl (Ev.no hn (Ev.yes hm (Ev.now _)))))⟩
    obtain ⟨u, rfl⟩ : ∃ u : Nat, a1 = (u : Int) := ⟨a1.toNat, by omega⟩
    have hz : (itoaS (u : Int)).size ≤ 7 := by
      rw [itoaS_nat]
      exact dec_len 6 u (by omega)
    have hr : (appS (⟨#[114]⟩ : ByteArray) (itoaS (u : Int))).size = 1 + (itoaS (u : Int)).size := appS_size _ _
    have hr2 : (appS (appS (⟨#[114]⟩ : ByteArray) (itoaS (u : Int))) (⟨#[46]⟩ : ByteArray)).size = 1 + (itoaS (u : Int)).size + 1 := by rw [appS_size, hr]; rfl
    have hbl : (bytesOf (appS (⟨#[114]⟩ : ByteArray) (itoaS (u : Int)))).length ≤ 20000 := by rw [bytesOf_length, hr]; omega
    have hbb : isBytes (bytesOf (appS (⟨#[114]⟩ : ByteArray) (itoaS (u : Int)))) := bytes_range _
    have hcl : (cut (macV (bytes4 a0) (bytesOf (appS (⟨#[114]⟩ : ByteArray) (itoaS (u : Int))))) 0 (0 + 8)).length = 8 := rfl
    have hcb : isBytes (cut (macV (bytes4 a0) (bytesOf (appS (⟨#[114]⟩ : ByteArray) (itoaS (u : Int))))) 0 (0 + 8)) := fun x hx => macV_bytes _ _ x (List.mem_of_mem_take (List.mem_of_mem_drop hx))
    obtain ⟨A1, A2⟩ := armor_ev _ (by rw [hcl]; omega) hcb
    have hA := armorS_size _ hcl hcb
    have c1 : (⟨#[114]⟩ : ByteArray).size + (itoaS (u : Int)).size ≤ lim := by show 1 + _ ≤ 4611686018427387904; omega
    have c2 : (appS (⟨#[114]⟩ : ByteArray) (itoaS (u : Int))).size + (⟨#[46]⟩ : ByteArray).size ≤ lim := by rw [hr]; show 1 + _ + 1 ≤ 4611686018427387904; omega
    have c3 : (appS (appS (⟨#[114]⟩ : ByteArray) (itoaS (u : Int))) (⟨#[46]⟩ : ByteArray)).size + (armorS (cut (macV (bytes4 a0) (bytesOf (appS (⟨#[114]⟩ : ByteArray) (itoaS (u : Int))))) 0 (0 + 8))).size ≤ lim := by
      rw [hr2, hA]; show 1 + _ + 1 + 13 ≤ 4611686018427387904; omega
    have hlen : (bytes4 a0).length ≤ 20000 := by show 4 ≤ 20000; omega
    refine ⟨appS (appS (appS (⟨#[114]⟩ : ByteArray) (itoaS (u : Int))) (⟨#[46]⟩ : ByteArray)) (armorS (cut (macV (bytes4 a0) (bytesOf (appS (⟨#[114]⟩ : ByteArray) (itoaS (u : Int))))) 0 (0 + 8))), ?_, ?_⟩
    · refine Ev.fn (fun k => spec_TokenOf.f_eq k a0 _) (Ev.bind s1 (Ev.yes rfl (Ev.no hn (Ev.no hm (Ev.tail ?_)))))
      exact Ev.fn (fun k => spec_l7Token.f_eq k a0 _) (Ev.bind (spec_num_ev u (by omega)) (Ev.yes c1 (Ev.yes c2 (Ev.bind (spec_bytes_ev a0 (by omega) (by omega)) (Ev.bind (spec_mac_ev (bytes4 a0) _ hlen hbl (bytes4_bytes a0) hbb) (Ev.yes ⟨by omega, by omega, by show (8 : Int) ≤ ((16 : Nat) : Int); omega⟩ (Ev.bind A1 (Ev.yes c3 (Ev.now _)))))))))
    · refine Ev.fn (fun k => impl_TokenOf.f_eq k a0 _) (Ev.bind s2 (Ev.yes rfl (Ev.no hn (Ev.no hm ?_))))
      refine Ev.bind (Ev.fn (fun k => strconv_Itoa.f_eq k _) (Ev.yes ⟨by omega, by omega⟩ (Ev.now _))) (Ev.yes c1 (Ev.yes c2 ?_))
      refine Ev.bind (impl_bytes_ev a0) (Ev.bind (impl_mac_ev (bytes4 a0) _ hlen hbl (bytes4_bytes a0) hbb) ?_)
      exact Ev.yes ⟨by omega, by omega, by show (8 : Int) ≤ ((16 : Nat) : Int); omega⟩ (Ev.bind A2 (Ev.yes c3 (Ev.now _)))
  · rw [decide_eq_false hs] at s1 s2
    exact ⟨_, Ev.fn (fun k => spec_TokenOf.f_eq k a0 a1) (Ev.bind s1 (Ev.no (by decide) (Ev.now _))), Ev.fn (fun k => impl_TokenOf.f_eq k a0 a1) (Ev.bind s2 (Ev.no (by decide) (Ev.now _)))⟩
theorem Pure.FnExactTokenOf : laws_FnExactTokenOf.Pure := by
  intro a0 a1 f0 f1
  obtain ⟨t, h1, h2⟩ := token_ev a0 a1 (i64_of f1)
  exact Ev.rounds (Ev.fn (fun k => laws_FnExactTokenOf.f_eq k a0 a1) (Ev.bind h1 (Ev.bind h2 (Ev.yes rfl (Ev.now _)))))

end Go.Proofs.YtacfnpnaeiagnabDoor.PT
