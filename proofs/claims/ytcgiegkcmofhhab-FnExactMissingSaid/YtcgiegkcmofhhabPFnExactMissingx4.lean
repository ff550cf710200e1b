-- Written for this claim by a program of this session, which goes by the kit's print and takes contracts proved by hand.
import Derived.Test.YtcgiegkcmofhhabPFnExactMissingx0
namespace Go.Proofs.Ytcgiegkcmofhhab.PFnExactMissing
open Go.RowKit Go.Proofs.YtcgiegkcmofhhabW.PrintWords Go.Proofs.YtcgiegkcmofhhabW.PrintLast Go.Proofs.YtcgiegkcmofhhabW.PrintMore
attribute [local go_sem] max2_int min2_int max_two min_two max_three min_three max_four min_four   -- for this text's walks alone
set_option linter.unusedVariables false
set_option linter.unusedSimpArgs false

/-! ### laws_markText: function 67 -/
def laws_markText.l0 : Nat → Int → ByteArray → Option (ByteArray)
 | 0, _, _ => none
 | k + 1, x0, x3 => if x0 > 0 then ((some (([(wrap64 (48 + (Int.tmod x0 10))) % 256] : List Int) : List Int)).bind fun y147 => (if (strOfNums y147).size + x3.size ≤ 9223372036854775807 then (laws_markText.l0 k (wrap64 (Int.tdiv x0 10)) ((strOfNums y147) ++ x3)) else (none))) else (if 1 + x3.size ≤ 9223372036854775807 then (some ((⟨#[109]⟩ : ByteArray) ++ x3)) else (none))
def laws_markText.f (k : Nat) (a0 : Int) : Option (ByteArray) := if a0 ≤ 0 then (some (⟨#[109, 48]⟩ : ByteArray)) else (laws_markText.l0 k a0 (⟨#[]⟩ : ByteArray))
theorem laws_markText.mono_l : ∀ k, (∀ y0 y1, LeO (laws_markText.l0 k y0 y1) (laws_markText.l0 (k + 1) y0 y1))
 | 0 => fun _ _ r h => by simp [laws_markText.l0] at h
 | k + 1 => by
  have ih0 := laws_markText.mono_l k
  ·intro y0 y1
   unfold laws_markText.l0
   repeat' first
   | (with_reducible exact ih0 _ _)
   | (with_reducible exact LeO.refl _)
   | (with_reducible exact LeO.none _)
   | (with_reducible refine LeO.ite ?_ ?_)
   | (with_reducible refine LeO.bind ?_ (fun _ => ?_))
   | exact ih0 _ _
   | exact LeO.none _
   | refine LeO.ite ?_ ?_
   | refine LeO.bind ?_ (fun _ => ?_)
theorem laws_markText.mono : ∀ a0 k, LeO (laws_markText.f k a0) (laws_markText.f (k + 1) a0) := by
 intro a0 k
 have ih0 := laws_markText.mono_l k
 unfold laws_markText.f
 repeat' first
   | (with_reducible exact ih0 _ _)
   | (with_reducible exact LeO.refl _)
   | (with_reducible exact LeO.none _)
   | (with_reducible refine LeO.ite ?_ ?_)
   | (with_reducible refine LeO.bind ?_ (fun _ => ?_))
   | exact ih0 _ _
   | exact LeO.none _
   | refine LeO.ite ?_ ?_
   | refine LeO.bind ?_ (fun _ => ?_)
set_option maxHeartbeats 8000000 in
set_option maxRecDepth 100000 in
theorem laws_markText.calls (k : Nat) (a0 : Int) (r : ByteArray) (w : World) (h : laws_markText.f k a0 = some r) :
  Calls Try.prog 67 #[.int .i64 a0] w fun e w' => e = .returned (.string r) ∧ Below w.heap.size w w' := by
 have HB := Aside0.mk (Below.refl w.heap.size w)
 have H : (if a0 ≤ 0 then (some (⟨#[109, 48]⟩ : ByteArray)) else (laws_markText.l0 k a0 (⟨#[]⟩ : ByteArray))) = some r := h
 clear h
 by_cases c2 : a0 ≤ 0
 ·rw [if_pos c2] at H
  have c2b0 : decide (a0 ≤ 0) = true := decide_eq_true c2
  clear c2
  obtain rfl := Option.some.inj H
  go_enter Try.func67, Try.ntmps67
  go_wp2
  go_ret
  exact ⟨by first | rfl | (simp [errW_none, errW_some] <;> rfl) | (simp [*, errW_none, errW_some] <;> rfl), by repeat (first | (with_reducible first | exact HB.out | apply pkA | apply pkN | apply pkD) | exact HB.out)⟩
 ·rw [if_neg c2] at H
  have c2b0 : decide (a0 ≤ 0) = false := decide_eq_false c2
  clear c2
  have H' := Aside0.mk H
  clear H
  go_enter Try.func67, Try.ntmps67
  go_wp2
  go_loopg [0, 3] k (fun kq v0 v3 w' => ∃ (x0_1 : Int) (x3_1 : ByteArray), v0 = .int .i64 x0_1 ∧ v3 = .string x3_1 ∧ Aside0 (laws_markText.l0 kq x0_1 x3_1 = some r) ∧ Aside0 (kq ≤ k) ∧ Aside0 (Below w.heap.size w w'))
  case atStart => exact ⟨(a0), ((⟨#[]⟩ : ByteArray)), (by first | rfl | (simp; done) | (simp [pw_ne_nil, pw_eq_nil]; done) | (simp [*]; done)), (by first | rfl | (simp; done) | (simp [pw_ne_nil, pw_eq_nil]; done) | (simp [*]; done)), H', ⟨Nat.le_refl _⟩, ⟨by repeat (first | (with_reducible first | exact HB.out | apply pkA | apply pkN | apply pkD) | exact HB.out)⟩⟩
  case round =>
   clear H'
   try clear c2; try clear c2b0; try clear p2
   obtain ⟨x0_1, x3_1, rfl, rfl, HA, HK1, HB⟩ := hrel
   cases gk with
   | zero => exact absurd HA.out (by simp [laws_markText.l0])
   | succ k1 =>
    have H := HA.out
    clear HA
    simp only [laws_markText.l0] at H
    by_cases c3 : x0_1 > 0
    ·rw [if_pos c3] at H
     have c3b0 : decide (0 < x0_1) = true := decide_eq_true c3
     clear c3
     obtain ⟨y147, hy147⟩ : ∃ y_ : List Int, y_ = (([(wrap64 (48 + (Int.tmod x0_1 10))) % 256] : List Int)) := ⟨_, rfl⟩
     replace H : (if (strOfNums y147).size + x3_1.size ≤ 9223372036854775807 then (laws_markText.l0 k1 (wrap64 (Int.tdiv x0_1 10)) ((strOfNums y147) ++ x3_1)) else (none)) = some r := by first | (rw [hy147]; with_reducible exact H) | (have H2_ := (Option.bind_some _ _).symm.trans H; rw [hy147]; with_reducible exact H2_) | (have H2_ := (Option.bind_some _ _).symm.trans H; with_reducible exact H2_) | with_reducible exact H | (rw [hy147]; exact H) | exact H
     have Ny147 := Aside0.mk hy147
     clear hy147
     by_cases c4 : (strOfNums y147).size + x3_1.size ≤ 9223372036854775807
     ·rw [if_pos c4] at H
      have c4b0 := eq_true c4
      have c4b1 : decide ((strOfNums y147).size + x3_1.size ≤ 9223372036854775807) = true := decide_eq_true c4
      try have c4b2 : (9223372036854775807 < (strOfNums y147).size + x3_1.size) = False := eq_false (Nat.not_lt.2 c4)
      have H' := Aside0.mk H
      clear H
      go_wp2_with (first | ((with_reducible refine gate_dst (N := 12) rfl ?_); refine Kd.R_lit (Kd.int .u8) _ 5 ?hg (N := 12) ?hd (xs := ([(wrap64 (48 + (Int.tmod x0_1 10))) % 256] : List Int)) (inner := [.int .u8 ((wrap64 (48 + (Int.tmod x0_1 10))) % 256)]) (ok := fun _ => True) (okp := fun _ => True) ?hr ?hp (fun _ hk => hk) trivial (Below.refl _ _) (Nat.le_refl _) (by simp) ?_; (case hd => rfl); (case hg => rfl); (case hr => first | (go_simp; done) | (go_simp; rfl)); (case hp => exact (Reps.one (show Kd.M (Kd.int .u8) _ _ _ ((wrap64 (48 + (Int.tmod x0_1 10))) % 256) [.int .u8 ((wrap64 (48 + (Int.tmod x0_1 10))) % 256)] from rfl) (Reps.none _ _))); intro v148 w5 ho6 hb hg_ hnew_; clear hg_ hnew_; (first | rw [← Ny147.out] at ho6 | (simp only [Int.reduceToNat] at ho6; rw [← Ny147.out] at ho6)); have n0_ := Aside0.mk (Kd.R_lower ho6 (below_size (by repeat (first | (with_reducible first | exact HB.out | apply pkA | apply pkN | apply pkD) | exact HB.out)))); have n1_ := Aside0.mk (below_step (by repeat (first | (with_reducible first | exact HB.out | apply pkA | apply pkN | apply pkD) | exact HB.out)) hb); clear HB; have HO149 := n0_; have HB := n1_; clear n0_ n1_; clear hb ho6; have hcv7 := own_string (P := Try.prog) Try.underlying109 Try.underlying5 Try.underlying9 (Kd.own_of_R HO149.out)))
      go_roundg k1
      case measure => have := HK1.out; omega
      case rel => exact ⟨(wrap64 (Int.tdiv x0_1 10)), ((strOfNums y147) ++ x3_1), (by first | rfl | (simp; done) | (simp [pw_ne_nil, pw_eq_nil]; done) | (simp [*]; done)), (by first | rfl | (simp; done) | (simp [pw_ne_nil, pw_eq_nil]; done) | (simp [*]; done)), H', ⟨by have := HK1.out; omega⟩, ⟨by repeat (first | (with_reducible first | exact HB.out | apply pkA | apply pkN | apply pkD) | exact HB.out)⟩⟩
     ·rw [if_neg c4] at H
      exact absurd H (by simp)
    ·rw [if_neg c3] at H
     have c3b0 : decide (0 < x0_1) = false := decide_eq_false c3
     clear c3
     by_cases c8 : 1 + x3_1.size ≤ 9223372036854775807
     ·rw [if_pos c8] at H
      have c8b0 := eq_true c8
      have c8b1 : decide (1 + x3_1.size ≤ 9223372036854775807) = true := decide_eq_true c8
      try have c8b2 : (9223372036854775807 < 1 + x3_1.size) = False := eq_false (Nat.not_lt.2 c8)
      obtain rfl := Option.some.inj H
      go_wp2
      go_ret
      exact ⟨by first | rfl | (simp [errW_none, errW_some] <;> rfl) | (simp [*, errW_none, errW_some] <;> rfl), by repeat (first | (with_reducible first | exact HB.out | apply pkA | apply pkN | apply pkD) | exact HB.out)⟩
     ·rw [if_neg c8] at H
      exact absurd H (by simp)

/-! ### laws_markDirChangeS: function 28 -/
def laws_markDirChangeS.l0 : Nat → List (S95) → Int → Int → Option (Int × (List (S95)))
 | 0, _, _, _ => none
 | k + 1, x0, x1, x5 => if x5 < (x0.length : Int) then (if 0 ≤ x5 then ((some (x0.set (x5 : Int).toNat (⟨(⟨x1, (rd_T95 x0 x5).f0.f1⟩ : S25), (rd_T95 x0 x5).f1, (rd_T95 x0 x5).f2, (rd_T95 x0 x5).f3, (⟨(rd_T95 x0 x5).f4.f0, (rd_T95 x0 x5).f4.f1⟩ : S93), (rd_T95 x0 x5).f5, (rd_T95 x0 x5).f6⟩ : S95) : List (S95))).bind fun y150 => ((some (y150.set (x5 : Int).toNat (⟨(⟨(rd_T95 y150 x5).f0.f0, wrap64 (x1 + 1)⟩ : S25), (rd_T95 y150 x5).f1, (rd_T95 y150 x5).f2, (rd_T95 y150 x5).f3, (⟨(rd_T95 y150 x5).f4.f0, (rd_T95 y150 x5).f4.f1⟩ : S93), (rd_T95 y150 x5).f5, (rd_T95 y150 x5).f6⟩ : S95) : List (S95))).bind fun y151 => ((some (y151.set (x5 : Int).toNat (⟨(⟨(rd_T95 y151 x5).f0.f0, (rd_T95 y151 x5).f0.f1⟩ : S25), wrap64 ((wrap64 (x1 + 1)) + 1), (rd_T95 y151 x5).f2, (rd_T95 y151 x5).f3, (⟨(rd_T95 y151 x5).f4.f0, (rd_T95 y151 x5).f4.f1⟩ : S93), (rd_T95 y151 x5).f5, (rd_T95 y151 x5).f6⟩ : S95) : List (S95))).bind fun y152 => ((some (y152.set (x5 : Int).toNat (⟨(⟨(rd_T95 y152 x5).f0.f0, (rd_T95 y152 x5).f0.f1⟩ : S25), (rd_T95 y152 x5).f1, wrap64 ((wrap64 ((wrap64 (x1 + 1)) + 1)) + 1), (rd_T95 y152 x5).f3, (⟨(rd_T95 y152 x5).f4.f0, (rd_T95 y152 x5).f4.f1⟩ : S93), (rd_T95 y152 x5).f5, (rd_T95 y152 x5).f6⟩ : S95) : List (S95))).bind fun y153 => ((some (y153.set (x5 : Int).toNat (⟨(⟨(rd_T95 y153 x5).f0.f0, (rd_T95 y153 x5).f0.f1⟩ : S25), (rd_T95 y153 x5).f1, (rd_T95 y153 x5).f2, wrap64 ((wrap64 ((wrap64 ((wrap64 (x1 + 1)) + 1)) + 1)) + 1), (⟨(rd_T95 y153 x5).f4.f0, (rd_T95 y153 x5).f4.f1⟩ : S93), (rd_T95 y153 x5).f5, (rd_T95 y153 x5).f6⟩ : S95) : List (S95))).bind fun y154 => ((laws_markText.f k (wrap64 ((wrap64 ((wrap64 ((wrap64 ((wrap64 (x1 + 1)) + 1)) + 1)) + 1)) + 1))).bind fun t155 => ((some (y154.set (x5 : Int).toNat (⟨(⟨(rd_T95 y154 x5).f0.f0, (rd_T95 y154 x5).f0.f1⟩ : S25), (rd_T95 y154 x5).f1, (rd_T95 y154 x5).f2, (rd_T95 y154 x5).f3, (⟨t155, (rd_T95 y154 x5).f4.f1⟩ : S93), (rd_T95 y154 x5).f5, (rd_T95 y154 x5).f6⟩ : S95) : List (S95))).bind fun y156 => ((laws_markText.f k (wrap64 ((wrap64 ((wrap64 ((wrap64 ((wrap64 ((wrap64 (x1 + 1)) + 1)) + 1)) + 1)) + 1)) + 1))).bind fun t157 => ((some (y156.set (x5 : Int).toNat (⟨(⟨(rd_T95 y156 x5).f0.f0, (rd_T95 y156 x5).f0.f1⟩ : S25), (rd_T95 y156 x5).f1, (rd_T95 y156 x5).f2, (rd_T95 y156 x5).f3, (⟨(rd_T95 y156 x5).f4.f0, t157⟩ : S93), (rd_T95 y156 x5).f5, (rd_T95 y156 x5).f6⟩ : S95) : List (S95))).bind fun y158 => ((laws_markText.f k (wrap64 ((wrap64 ((wrap64 ((wrap64 ((wrap64 ((wrap64 ((wrap64 (x1 + 1)) + 1)) + 1)) + 1)) + 1)) + 1)) + 1))).bind fun t159 => ((some (y158.set (x5 : Int).toNat (⟨(⟨(rd_T95 y158 x5).f0.f0, (rd_T95 y158 x5).f0.f1⟩ : S25), (rd_T95 y158 x5).f1, (rd_T95 y158 x5).f2, (rd_T95 y158 x5).f3, (⟨(rd_T95 y158 x5).f4.f0, (rd_T95 y158 x5).f4.f1⟩ : S93), t159, (rd_T95 y158 x5).f6⟩ : S95) : List (S95))).bind fun y160 => ((laws_markText.f k (wrap64 ((wrap64 ((wrap64 ((wrap64 ((wrap64 ((wrap64 ((wrap64 ((wrap64 (x1 + 1)) + 1)) + 1)) + 1)) + 1)) + 1)) + 1)) + 1))).bind fun t161 => (laws_markDirChangeS.l0 k (y160.set (x5 : Int).toNat (⟨(⟨(rd_T95 y160 x5).f0.f0, (rd_T95 y160 x5).f0.f1⟩ : S25), (rd_T95 y160 x5).f1, (rd_T95 y160 x5).f2, (rd_T95 y160 x5).f3, (⟨(rd_T95 y160 x5).f4.f0, (rd_T95 y160 x5).f4.f1⟩ : S93), (rd_T95 y160 x5).f5, t161⟩ : S95)) (wrap64 ((wrap64 ((wrap64 ((wrap64 ((wrap64 ((wrap64 ((wrap64 ((wrap64 ((wrap64 (x1 + 1)) + 1)) + 1)) + 1)) + 1)) + 1)) + 1)) + 1)) + 1)) (wrap64 (x5 + 1))))))))))))))) else (none)) else (some (x1, x0))
def laws_markDirChangeS.f (k : Nat) (l0 : List (S95)) (a1 : Int) : Option (Int × (List (S95))) := laws_markDirChangeS.l0 k l0 a1 0
theorem laws_markDirChangeS.mono_l : ∀ k, (∀ y0 y1 y2, LeO (laws_markDirChangeS.l0 k y0 y1 y2) (laws_markDirChangeS.l0 (k + 1) y0 y1 y2))
 | 0 => fun _ _ _ r h => by simp [laws_markDirChangeS.l0] at h
 | k + 1 => by
  have ih0 := laws_markDirChangeS.mono_l k
  ·intro y0 y1 y2
   unfold laws_markDirChangeS.l0
   repeat' first
   | (with_reducible exact ih0 _ _ _)
   | (with_reducible exact laws_markText.mono _ _)
   | (with_reducible exact LeO.refl _)
   | (with_reducible exact LeO.none _)
   | (with_reducible refine LeO.ite ?_ ?_)
   | (with_reducible refine LeO.bind ?_ (fun _ => ?_))
   | exact ih0 _ _ _
   | exact laws_markText.mono _ _
   | exact LeO.none _
   | refine LeO.ite ?_ ?_
   | refine LeO.bind ?_ (fun _ => ?_)
theorem laws_markDirChangeS.mono : ∀ a0 a1 k, LeO (laws_markDirChangeS.f k a0 a1) (laws_markDirChangeS.f (k + 1) a0 a1) := by
 intro a0 a1 k
 have ih0 := laws_markDirChangeS.mono_l k
 unfold laws_markDirChangeS.f
 repeat' first
   | (with_reducible exact ih0 _ _ _)
   | (with_reducible exact laws_markText.mono _ _)
   | (with_reducible exact LeO.refl _)
   | (with_reducible exact LeO.none _)
   | (with_reducible refine LeO.ite ?_ ?_)
   | (with_reducible refine LeO.bind ?_ (fun _ => ?_))
   | exact ih0 _ _ _
   | exact laws_markText.mono _ _
   | exact LeO.none _
   | refine LeO.ite ?_ ?_
   | refine LeO.bind ?_ (fun _ => ?_)
set_option maxHeartbeats 8000000 in
set_option maxRecDepth 100000 in
theorem laws_markDirChangeS.calls (k : Nat) (P0_ : Nat → Prop) (u9000_ : Value) (l0 : List (S95)) (a1 : Int) (r1 : Int) (r2 : List (S95)) (w0 w : World) (hB : Below w0.heap.size w0 w) (ho0 : Kd.R k95 95 w w0.heap.size P0_ u9000_ l0) (h : laws_markDirChangeS.f k l0 a1 = some (r1, r2)) :
  Calls Try.prog 28 #[u9000_, .int .i64 a1] w fun e w' => e = .returned (.int .i64 r1) ∧ Kd.R k95 95 w' w0.heap.size (fun k_ => (P0_ k_ ∨ w.heap.size ≤ k_)) u9000_ r2 ∧ Below w0.heap.size w0 w' ∧ Kept w w' (fun k_ => P0_ k_) := by
 have HO0 := Aside0.mk (show Kd.R k95 95 w w0.heap.size (fun k_ => (P0_ k_ ∨ w.heap.size ≤ k_)) u9000_ l0 from Kd.R_mono ho0 (fun k_ hk => (.inl hk)))
 have HK := Aside0.mk (Kept.refl w (fun k_ => P0_ k_))
 have HW0 := Aside0.mk hB.size
 have HB := Aside0.mk hB
 clear hB
 have H : (laws_markDirChangeS.l0 k l0 a1 0) = some (r1, r2) := h
 clear h
 have H' := Aside0.mk H
 clear H
 go_enter Try.func28, Try.ntmps28
 go_wp2
 go_loopg [1, 5] k (fun kq v1 v5 w' => ∃ (x0_1 : List (S95)) (x1_1 : Int) (x5_1 : Int), v1 = .int .i64 x1_1 ∧ v5 = .int .i64 x5_1 ∧ Aside0 (laws_markDirChangeS.l0 kq x0_1 x1_1 x5_1 = some (r1, r2)) ∧ Aside0 (kq ≤ k) ∧ Aside0 (Kd.R k95 95 w' w0.heap.size (fun k_ => (P0_ k_ ∨ w.heap.size ≤ k_)) u9000_ x0_1) ∧ Aside0 (Kept w w' (fun k_ => P0_ k_)) ∧ Aside0 (Below w0.heap.size w0 w'))
 case atStart => exact ⟨(l0), (a1), (0), (by first | rfl | (simp; done) | (simp [pw_ne_nil, pw_eq_nil]; done) | (simp [*]; done)), (by first | rfl | (simp; done) | (simp [pw_ne_nil, pw_eq_nil]; done) | (simp [*]; done)), H', ⟨Nat.le_refl _⟩, ⟨by (with_reducible repeat (first | apply Kd.R_alloc | apply Kd.R_drewN | apply Kd.R_drew)); exact HO0.out⟩, ⟨by repeat (first | (with_reducible first | exact HK.out | apply Kept.alloc | apply Kept.drewN | apply Kept.drew) | exact HK.out)⟩, ⟨by repeat (first | (with_reducible first | exact HB.out | apply pkA | apply pkN | apply pkD) | exact HB.out)⟩⟩
 case round =>
  clear H'
  try clear c2; try clear p2
  obtain ⟨x0_1, x1_1, x5_1, rfl, rfl, HA, HK1, HO_0, HK, HB⟩ := hrel
  cases gk with
  | zero => exact absurd HA.out (by simp [laws_markDirChangeS.l0])
  | succ k1 =>
   have H := HA.out
   clear HA
   simp only [laws_markDirChangeS.l0] at H
   by_cases c3 : x5_1 < (x0_1.length : Int)
   ·rw [if_pos c3] at H
    have c3b0 : decide (x5_1 < (x0_1.length : Int)) = true := decide_eq_true c3
    clear c3
    by_cases c4 : 0 ≤ x5_1
    ·rw [if_pos c4] at H
     have c4b0 : decide (0 ≤ x5_1) = true := decide_eq_true c4
     clear c4
     obtain ⟨y150, hy150⟩ : ∃ y_ : List (S95), y_ = (x0_1.set (x5_1 : Int).toNat (⟨(⟨x1_1, (rd_T95 x0_1 x5_1).f0.f1⟩ : S25), (rd_T95 x0_1 x5_1).f1, (rd_T95 x0_1 x5_1).f2, (rd_T95 x0_1 x5_1).f3, (⟨(rd_T95 x0_1 x5_1).f4.f0, (rd_T95 x0_1 x5_1).f4.f1⟩ : S93), (rd_T95 x0_1 x5_1).f5, (rd_T95 x0_1 x5_1).f6⟩ : S95)) := ⟨_, rfl⟩
     replace H : ((some (y150.set (x5_1 : Int).toNat (⟨(⟨(rd_T95 y150 x5_1).f0.f0, wrap64 (x1_1 + 1)⟩ : S25), (rd_T95 y150 x5_1).f1, (rd_T95 y150 x5_1).f2, (rd_T95 y150 x5_1).f3, (⟨(rd_T95 y150 x5_1).f4.f0, (rd_T95 y150 x5_1).f4.f1⟩ : S93), (rd_T95 y150 x5_1).f5, (rd_T95 y150 x5_1).f6⟩ : S95) : List (S95))).bind fun y151 => ((some (y151.set (x5_1 : Int).toNat (⟨(⟨(rd_T95 y151 x5_1).f0.f0, (rd_T95 y151 x5_1).f0.f1⟩ : S25), wrap64 ((wrap64 (x1_1 + 1)) + 1), (rd_T95 y151 x5_1).f2, (rd_T95 y151 x5_1).f3, (⟨(rd_T95 y151 x5_1).f4.f0, (rd_T95 y151 x5_1).f4.f1⟩ : S93), (rd_T95 y151 x5_1).f5, (rd_T95 y151 x5_1).f6⟩ : S95) : List (S95))).bind fun y152 => ((some (y152.set (x5_1 : Int).toNat (⟨(⟨(rd_T95 y152 x5_1).f0.f0, (rd_T95 y152 x5_1).f0.f1⟩ : S25), (rd_T95 y152 x5_1).f1, wrap64 ((wrap64 ((wrap64 (x1_1 + 1)) + 1)) + 1), (rd_T95 y152 x5_1).f3, (⟨(rd_T95 y152 x5_1).f4.f0, (rd_T95 y152 x5_1).f4.f1⟩ : S93), (rd_T95 y152 x5_1).f5, (rd_T95 y152 x5_1).f6⟩ : S95) : List (S95))).bind fun y153 => ((some (y153.set (x5_1 : Int).toNat (⟨(⟨(rd_T95 y153 x5_1).f0.f0, (rd_T95 y153 x5_1).f0.f1⟩ : S25), (rd_T95 y153 x5_1).f1, (rd_T95 y153 x5_1).f2, wrap64 ((wrap64 ((wrap64 ((wrap64 (x1_1 + 1)) + 1)) + 1)) + 1), (⟨(rd_T95 y153 x5_1).f4.f0, (rd_T95 y153 x5_1).f4.f1⟩ : S93), (rd_T95 y153 x5_1).f5, (rd_T95 y153 x5_1).f6⟩ : S95) : List (S95))).bind fun y154 => ((laws_markText.f k1 (wrap64 ((wrap64 ((wrap64 ((wrap64 ((wrap64 (x1_1 + 1)) + 1)) + 1)) + 1)) + 1))).bind fun t155 => ((some (y154.set (x5_1 : Int).toNat (⟨(⟨(rd_T95 y154 x5_1).f0.f0, (rd_T95 y154 x5_1).f0.f1⟩ : S25), (rd_T95 y154 x5_1).f1, (rd_T95 y154 x5_1).f2, (rd_T95 y154 x5_1).f3, (⟨t155, (rd_T95 y154 x5_1).f4.f1⟩ : S93), (rd_T95 y154 x5_1).f5, (rd_T95 y154 x5_1).f6⟩ : S95) : List (S95))).bind fun y156 => ((laws_markText.f k1 (wrap64 ((wrap64 ((wrap64 ((wrap64 ((wrap64 ((wrap64 (x1_1 + 1)) + 1)) + 1)) + 1)) + 1)) + 1))).bind fun t157 => ((some (y156.set (x5_1 : Int).toNat (⟨(⟨(rd_T95 y156 x5_1).f0.f0, (rd_T95 y156 x5_1).f0.f1⟩ : S25), (rd_T95 y156 x5_1).f1, (rd_T95 y156 x5_1).f2, (rd_T95 y156 x5_1).f3, (⟨(rd_T95 y156 x5_1).f4.f0, t157⟩ : S93), (rd_T95 y156 x5_1).f5, (rd_T95 y156 x5_1).f6⟩ : S95) : List (S95))).bind fun y158 => ((laws_markText.f k1 (wrap64 ((wrap64 ((wrap64 ((wrap64 ((wrap64 ((wrap64 ((wrap64 (x1_1 + 1)) + 1)) + 1)) + 1)) + 1)) + 1)) + 1))).bind fun t159 => ((some (y158.set (x5_1 : Int).toNat (⟨(⟨(rd_T95 y158 x5_1).f0.f0, (rd_T95 y158 x5_1).f0.f1⟩ : S25), (rd_T95 y158 x5_1).f1, (rd_T95 y158 x5_1).f2, (rd_T95 y158 x5_1).f3, (⟨(rd_T95 y158 x5_1).f4.f0, (rd_T95 y158 x5_1).f4.f1⟩ : S93), t159, (rd_T95 y158 x5_1).f6⟩ : S95) : List (S95))).bind fun y160 => ((laws_markText.f k1 (wrap64 ((wrap64 ((wrap64 ((wrap64 ((wrap64 ((wrap64 ((wrap64 ((wrap64 (x1_1 + 1)) + 1)) + 1)) + 1)) + 1)) + 1)) + 1)) + 1))).bind fun t161 => (laws_markDirChangeS.l0 k1 (y160.set (x5_1 : Int).toNat (⟨(⟨(rd_T95 y160 x5_1).f0.f0, (rd_T95 y160 x5_1).f0.f1⟩ : S25), (rd_T95 y160 x5_1).f1, (rd_T95 y160 x5_1).f2, (rd_T95 y160 x5_1).f3, (⟨(rd_T95 y160 x5_1).f4.f0, (rd_T95 y160 x5_1).f4.f1⟩ : S93), (rd_T95 y160 x5_1).f5, t161⟩ : S95)) (wrap64 ((wrap64 ((wrap64 ((wrap64 ((wrap64 ((wrap64 ((wrap64 ((wrap64 ((wrap64 (x1_1 + 1)) + 1)) + 1)) + 1)) + 1)) + 1)) + 1)) + 1)) + 1)) (wrap64 (x5_1 + 1)))))))))))))) = some (r1, r2) := by first | (rw [hy150]; with_reducible exact H) | (have H2_ := (Option.bind_some _ _).symm.trans H; rw [hy150]; with_reducible exact H2_) | (have H2_ := (Option.bind_some _ _).symm.trans H; with_reducible exact H2_) | with_reducible exact H | (rw [hy150]; exact H) | exact H
     have Ny150 := Aside0.mk hy150
     clear hy150
     obtain ⟨y151, hy151⟩ : ∃ y_ : List (S95), y_ = (y150.set (x5_1 : Int).toNat (⟨(⟨(rd_T95 y150 x5_1).f0.f0, wrap64 (x1_1 + 1)⟩ : S25), (rd_T95 y150 x5_1).f1, (rd_T95 y150 x5_1).f2, (rd_T95 y150 x5_1).f3, (⟨(rd_T95 y150 x5_1).f4.f0, (rd_T95 y150 x5_1).f4.f1⟩ : S93), (rd_T95 y150 x5_1).f5, (rd_T95 y150 x5_1).f6⟩ : S95)) := ⟨_, rfl⟩
     replace H : ((some (y151.set (x5_1 : Int).toNat (⟨(⟨(rd_T95 y151 x5_1).f0.f0, (rd_T95 y151 x5_1).f0.f1⟩ : S25), wrap64 ((wrap64 (x1_1 + 1)) + 1), (rd_T95 y151 x5_1).f2, (rd_T95 y151 x5_1).f3, (⟨(rd_T95 y151 x5_1).f4.f0, (rd_T95 y151 x5_1).f4.f1⟩ : S93), (rd_T95 y151 x5_1).f5, (rd_T95 y151 x5_1).f6⟩ : S95) : List (S95))).bind fun y152 => ((some (y152.set (x5_1 : Int).toNat (⟨(⟨(rd_T95 y152 x5_1).f0.f0, (rd_T95 y152 x5_1).f0.f1⟩ : S25), (rd_T95 y152 x5_1).f1, wrap64 ((wrap64 ((wrap64 (x1_1 + 1)) + 1)) + 1), (rd_T95 y152 x5_1).f3, (⟨(rd_T95 y152 x5_1).f4.f0, (rd_T95 y152 x5_1).f4.f1⟩ : S93), (rd_T95 y152 x5_1).f5, (rd_T95 y152 x5_1).f6⟩ : S95) : List (S95))).bind fun y153 => ((some (y153.set (x5_1 : Int).toNat (⟨(⟨(rd_T95 y153 x5_1).f0.f0, (rd_T95 y153 x5_1).f0.f1⟩ : S25), (rd_T95 y153 x5_1).f1, (rd_T95 y153 x5_1).f2, wrap64 ((wrap64 ((wrap64 ((wrap64 (x1_1 + 1)) + 1)) + 1)) + 1), (⟨(rd_T95 y153 x5_1).f4.f0, (rd_T95 y153 x5_1).f4.f1⟩ : S93), (rd_T95 y153 x5_1).f5, (rd_T95 y153 x5_1).f6⟩ : S95) : List (S95))).bind fun y154 => ((laws_markText.f k1 (wrap64 ((wrap64 ((wrap64 ((wrap64 ((wrap64 (x1_1 + 1)) + 1)) + 1)) + 1)) + 1))).bind fun t155 => ((some (y154.set (x5_1 : Int).toNat (⟨(⟨(rd_T95 y154 x5_1).f0.f0, (rd_T95 y154 x5_1).f0.f1⟩ : S25), (rd_T95 y154 x5_1).f1, (rd_T95 y154 x5_1).f2, (rd_T95 y154 x5_1).f3, (⟨t155, (rd_T95 y154 x5_1).f4.f1⟩ : S93), (rd_T95 y154 x5_1).f5, (rd_T95 y154 x5_1).f6⟩ : S95) : List (S95))).bind fun y156 => ((laws_markText.f k1 (wrap64 ((wrap64 ((wrap64 ((wrap64 ((wrap64 ((wrap64 (x1_1 + 1)) + 1)) + 1)) + 1)) + 1)) + 1))).bind fun t157 => ((some (y156.set (x5_1 : Int).toNat (⟨(⟨(rd_T95 y156 x5_1).f0.f0, (rd_T95 y156 x5_1).f0.f1⟩ : S25), (rd_T95 y156 x5_1).f1, (rd_T95 y156 x5_1).f2, (rd_T95 y156 x5_1).f3, (⟨(rd_T95 y156 x5_1).f4.f0, t157⟩ : S93), (rd_T95 y156 x5_1).f5, (rd_T95 y156 x5_1).f6⟩ : S95) : List (S95))).bind fun y158 => ((laws_markText.f k1 (wrap64 ((wrap64 ((wrap64 ((wrap64 ((wrap64 ((wrap64 ((wrap64 (x1_1 + 1)) + 1)) + 1)) + 1)) + 1)) + 1)) + 1))).bind fun t159 => ((some (y158.set (x5_1 : Int).toNat (⟨(⟨(rd_T95 y158 x5_1).f0.f0, (rd_T95 y158 x5_1).f0.f1⟩ : S25), (rd_T95 y158 x5_1).f1, (rd_T95 y158 x5_1).f2, (rd_T95 y158 x5_1).f3, (⟨(rd_T95 y158 x5_1).f4.f0, (rd_T95 y158 x5_1).f4.f1⟩ : S93), t159, (rd_T95 y158 x5_1).f6⟩ : S95) : List (S95))).bind fun y160 => ((laws_markText.f k1 (wrap64 ((wrap64 ((wrap64 ((wrap64 ((wrap64 ((wrap64 ((wrap64 ((wrap64 (x1_1 + 1)) + 1)) + 1)) + 1)) + 1)) + 1)) + 1)) + 1))).bind fun t161 => (laws_markDirChangeS.l0 k1 (y160.set (x5_1 : Int).toNat (⟨(⟨(rd_T95 y160 x5_1).f0.f0, (rd_T95 y160 x5_1).f0.f1⟩ : S25), (rd_T95 y160 x5_1).f1, (rd_T95 y160 x5_1).f2, (rd_T95 y160 x5_1).f3, (⟨(rd_T95 y160 x5_1).f4.f0, (rd_T95 y160 x5_1).f4.f1⟩ : S93), (rd_T95 y160 x5_1).f5, t161⟩ : S95)) (wrap64 ((wrap64 ((wrap64 ((wrap64 ((wrap64 ((wrap64 ((wrap64 ((wrap64 ((wrap64 (x1_1 + 1)) + 1)) + 1)) + 1)) + 1)) + 1)) + 1)) + 1)) + 1)) (wrap64 (x5_1 + 1))))))))))))) = some (r1, r2) := by first | (rw [hy151]; with_reducible exact H) | (have H2_ := (Option.bind_some _ _).symm.trans H; rw [hy151]; with_reducible exact H2_) | (have H2_ := (Option.bind_some _ _).symm.trans H; with_reducible exact H2_) | with_reducible exact H | (rw [hy151]; exact H) | exact H
     have Ny151 := Aside0.mk hy151
     clear hy151
     obtain ⟨y152, hy152⟩ : ∃ y_ : List (S95), y_ = (y151.set (x5_1 : Int).toNat (⟨(⟨(rd_T95 y151 x5_1).f0.f0, (rd_T95 y151 x5_1).f0.f1⟩ : S25), wrap64 ((wrap64 (x1_1 + 1)) + 1), (rd_T95 y151 x5_1).f2, (rd_T95 y151 x5_1).f3, (⟨(rd_T95 y151 x5_1).f4.f0, (rd_T95 y151 x5_1).f4.f1⟩ : S93), (rd_T95 y151 x5_1).f5, (rd_T95 y151 x5_1).f6⟩ : S95)) := ⟨_, rfl⟩
     replace H : ((some (y152.set (x5_1 : Int).toNat (⟨(⟨(rd_T95 y152 x5_1).f0.f0, (rd_T95 y152 x5_1).f0.f1⟩ : S25), (rd_T95 y152 x5_1).f1, wrap64 ((wrap64 ((wrap64 (x1_1 + 1)) + 1)) + 1), (rd_T95 y152 x5_1).f3, (⟨(rd_T95 y152 x5_1).f4.f0, (rd_T95 y152 x5_1).f4.f1⟩ : S93), (rd_T95 y152 x5_1).f5, (rd_T95 y152 x5_1).f6⟩ : S95) : List (S95))).bind fun y153 => ((some (y153.set (x5_1 : Int).toNat (⟨(⟨(rd_T95 y153 x5_1).f0.f0, (rd_T95 y153 x5_1).f0.f1⟩ : S25), (rd_T95 y153 x5_1).f1, (rd_T95 y153 x5_1).f2, wrap64 ((wrap64 ((wrap64 ((wrap64 (x1_1 + 1)) + 1)) + 1)) + 1), (⟨(rd_T95 y153 x5_1).f4.f0, (rd_T95 y153 x5_1).f4.f1⟩ : S93), (rd_T95 y153 x5_1).f5, (rd_T95 y153 x5_1).f6⟩ : S95) : List (S95))).bind fun y154 => ((laws_markText.f k1 (wrap64 ((wrap64 ((wrap64 ((wrap64 ((wrap64 (x1_1 + 1)) + 1)) + 1)) + 1)) + 1))).bind fun t155 => ((some (y154.set (x5_1 : Int).toNat (⟨(⟨(rd_T95 y154 x5_1).f0.f0, (rd_T95 y154 x5_1).f0.f1⟩ : S25), (rd_T95 y154 x5_1).f1, (rd_T95 y154 x5_1).f2, (rd_T95 y154 x5_1).f3, (⟨t155, (rd_T95 y154 x5_1).f4.f1⟩ : S93), (rd_T95 y154 x5_1).f5, (rd_T95 y154 x5_1).f6⟩ : S95) : List (S95))).bind fun y156 => ((laws_markText.f k1 (wrap64 ((wrap64 ((wrap64 ((wrap64 ((wrap64 ((wrap64 (x1_1 + 1)) + 1)) + 1)) + 1)) + 1)) + 1))).bind fun t157 => ((some (y156.set (x5_1 : Int).toNat (⟨(⟨(rd_T95 y156 x5_1).f0.f0, (rd_T95 y156 x5_1).f0.f1⟩ : S25), (rd_T95 y156 x5_1).f1, (rd_T95 y156 x5_1).f2, (rd_T95 y156 x5_1).f3, (⟨(rd_T95 y156 x5_1).f4.f0, t157⟩ : S93), (rd_T95 y156 x5_1).f5, (rd_T95 y156 x5_1).f6⟩ : S95) : List (S95))).bind fun y158 => ((laws_markText.f k1 (wrap64 ((wrap64 ((wrap64 ((wrap64 ((wrap64 ((wrap64 ((wrap64 (x1_1 + 1)) + 1)) + 1)) + 1)) + 1)) + 1)) + 1))).bind fun t159 => ((some (y158.set (x5_1 : Int).toNat (⟨(⟨(rd_T95 y158 x5_1).f0.f0, (rd_T95 y158 x5_1).f0.f1⟩ : S25), (rd_T95 y158 x5_1).f1, (rd_T95 y158 x5_1).f2, (rd_T95 y158 x5_1).f3, (⟨(rd_T95 y158 x5_1).f4.f0, (rd_T95 y158 x5_1).f4.f1⟩ : S93), t159, (rd_T95 y158 x5_1).f6⟩ : S95) : List (S95))).bind fun y160 => ((laws_markText.f k1 (wrap64 ((wrap64 ((wrap64 ((wrap64 ((wrap64 ((wrap64 ((wrap64 ((wrap64 (x1_1 + 1)) + 1)) + 1)) + 1)) + 1)) + 1)) + 1)) + 1))).bind fun t161 => (laws_markDirChangeS.l0 k1 (y160.set (x5_1 : Int).toNat (⟨(⟨(rd_T95 y160 x5_1).f0.f0, (rd_T95 y160 x5_1).f0.f1⟩ : S25), (rd_T95 y160 x5_1).f1, (rd_T95 y160 x5_1).f2, (rd_T95 y160 x5_1).f3, (⟨(rd_T95 y160 x5_1).f4.f0, (rd_T95 y160 x5_1).f4.f1⟩ : S93), (rd_T95 y160 x5_1).f5, t161⟩ : S95)) (wrap64 ((wrap64 ((wrap64 ((wrap64 ((wrap64 ((wrap64 ((wrap64 ((wrap64 ((wrap64 (x1_1 + 1)) + 1)) + 1)) + 1)) + 1)) + 1)) + 1)) + 1)) + 1)) (wrap64 (x5_1 + 1)))))))))))) = some (r1, r2) := by first | (rw [hy152]; with_reducible exact H) | (have H2_ := (Option.bind_some _ _).symm.trans H; rw [hy152]; with_reducible exact H2_) | (have H2_ := (Option.bind_some _ _).symm.trans H; with_reducible exact H2_) | with_reducible exact H | (rw [hy152]; exact H) | exact H
     have Ny152 := Aside0.mk hy152
     clear hy152
     obtain ⟨y153, hy153⟩ : ∃ y_ : List (S95), y_ = (y152.set (x5_1 : Int).toNat (⟨(⟨(rd_T95 y152 x5_1).f0.f0, (rd_T95 y152 x5_1).f0.f1⟩ : S25), (rd_T95 y152 x5_1).f1, wrap64 ((wrap64 ((wrap64 (x1_1 + 1)) + 1)) + 1), (rd_T95 y152 x5_1).f3, (⟨(rd_T95 y152 x5_1).f4.f0, (rd_T95 y152 x5_1).f4.f1⟩ : S93), (rd_T95 y152 x5_1).f5, (rd_T95 y152 x5_1).f6⟩ : S95)) := ⟨_, rfl⟩
     replace H : ((some (y153.set (x5_1 : Int).toNat (⟨(⟨(rd_T95 y153 x5_1).f0.f0, (rd_T95 y153 x5_1).f0.f1⟩ : S25), (rd_T95 y153 x5_1).f1, (rd_T95 y153 x5_1).f2, wrap64 ((wrap64 ((wrap64 ((wrap64 (x1_1 + 1)) + 1)) + 1)) + 1), (⟨(rd_T95 y153 x5_1).f4.f0, (rd_T95 y153 x5_1).f4.f1⟩ : S93), (rd_T95 y153 x5_1).f5, (rd_T95 y153 x5_1).f6⟩ : S95) : List (S95))).bind fun y154 => ((laws_markText.f k1 (wrap64 ((wrap64 ((wrap64 ((wrap64 ((wrap64 (x1_1 + 1)) + 1)) + 1)) + 1)) + 1))).bind fun t155 => ((some (y154.set (x5_1 : Int).toNat (⟨(⟨(rd_T95 y154 x5_1).f0.f0, (rd_T95 y154 x5_1).f0.f1⟩ : S25), (rd_T95 y154 x5_1).f1, (rd_T95 y154 x5_1).f2, (rd_T95 y154 x5_1).f3, (⟨t155, (rd_T95 y154 x5_1).f4.f1⟩ : S93), (rd_T95 y154 x5_1).f5, (rd_T95 y154 x5_1).f6⟩ : S95) : List (S95))).bind fun y156 => ((laws_markText.f k1 (wrap64 ((wrap64 ((wrap64 ((wrap64 ((wrap64 ((wrap64 (x1_1 + 1)) + 1)) + 1)) + 1)) + 1)) + 1))).bind fun t157 => ((some (y156.set (x5_1 : Int).toNat (⟨(⟨(rd_T95 y156 x5_1).f0.f0, (rd_T95 y156 x5_1).f0.f1⟩ : S25), (rd_T95 y156 x5_1).f1, (rd_T95 y156 x5_1).f2, (rd_T95 y156 x5_1).f3, (⟨(rd_T95 y156 x5_1).f4.f0, t157⟩ : S93), (rd_T95 y156 x5_1).f5, (rd_T95 y156 x5_1).f6⟩ : S95) : List (S95))).bind fun y158 => ((laws_markText.f k1 (wrap64 ((wrap64 ((wrap64 ((wrap64 ((wrap64 ((wrap64 ((wrap64 (x1_1 + 1)) + 1)) + 1)) + 1)) + 1)) + 1)) + 1))).bind fun t159 => ((some (y158.set (x5_1 : Int).toNat (⟨(⟨(rd_T95 y158 x5_1).f0.f0, (rd_T95 y158 x5_1).f0.f1⟩ : S25), (rd_T95 y158 x5_1).f1, (rd_T95 y158 x5_1).f2, (rd_T95 y158 x5_1).f3, (⟨(rd_T95 y158 x5_1).f4.f0, (rd_T95 y158 x5_1).f4.f1⟩ : S93), t159, (rd_T95 y158 x5_1).f6⟩ : S95) : List (S95))).bind fun y160 => ((laws_markText.f k1 (wrap64 ((wrap64 ((wrap64 ((wrap64 ((wrap64 ((wrap64 ((wrap64 ((wrap64 (x1_1 + 1)) + 1)) + 1)) + 1)) + 1)) + 1)) + 1)) + 1))).bind fun t161 => (laws_markDirChangeS.l0 k1 (y160.set (x5_1 : Int).toNat (⟨(⟨(rd_T95 y160 x5_1).f0.f0, (rd_T95 y160 x5_1).f0.f1⟩ : S25), (rd_T95 y160 x5_1).f1, (rd_T95 y160 x5_1).f2, (rd_T95 y160 x5_1).f3, (⟨(rd_T95 y160 x5_1).f4.f0, (rd_T95 y160 x5_1).f4.f1⟩ : S93), (rd_T95 y160 x5_1).f5, t161⟩ : S95)) (wrap64 ((wrap64 ((wrap64 ((wrap64 ((wrap64 ((wrap64 ((wrap64 ((wrap64 ((wrap64 (x1_1 + 1)) + 1)) + 1)) + 1)) + 1)) + 1)) + 1)) + 1)) + 1)) (wrap64 (x5_1 + 1))))))))))) = some (r1, r2) := by first | (rw [hy153]; with_reducible exact H) | (have H2_ := (Option.bind_some _ _).symm.trans H; rw [hy153]; with_reducible exact H2_) | (have H2_ := (Option.bind_some _ _).symm.trans H; with_reducible exact H2_) | with_reducible exact H | (rw [hy153]; exact H) | exact H
     have Ny153 := Aside0.mk hy153
     clear hy153
     obtain ⟨y154, hy154⟩ : ∃ y_ : List (S95), y_ = (y153.set (x5_1 : Int).toNat (⟨(⟨(rd_T95 y153 x5_1).f0.f0, (rd_T95 y153 x5_1).f0.f1⟩ : S25), (rd_T95 y153 x5_1).f1, (rd_T95 y153 x5_1).f2, wrap64 ((wrap64 ((wrap64 ((wrap64 (x1_1 + 1)) + 1)) + 1)) + 1), (⟨(rd_T95 y153 x5_1).f4.f0, (rd_T95 y153 x5_1).f4.f1⟩ : S93), (rd_T95 y153 x5_1).f5, (rd_T95 y153 x5_1).f6⟩ : S95)) := ⟨_, rfl⟩
     replace H : ((laws_markText.f k1 (wrap64 ((wrap64 ((wrap64 ((wrap64 ((wrap64 (x1_1 + 1)) + 1)) + 1)) + 1)) + 1))).bind fun t155 => ((some (y154.set (x5_1 : Int).toNat (⟨(⟨(rd_T95 y154 x5_1).f0.f0, (rd_T95 y154 x5_1).f0.f1⟩ : S25), (rd_T95 y154 x5_1).f1, (rd_T95 y154 x5_1).f2, (rd_T95 y154 x5_1).f3, (⟨t155, (rd_T95 y154 x5_1).f4.f1⟩ : S93), (rd_T95 y154 x5_1).f5, (rd_T95 y154 x5_1).f6⟩ : S95) : List (S95))).bind fun y156 => ((laws_markText.f k1 (wrap64 ((wrap64 ((wrap64 ((wrap64 ((wrap64 ((wrap64 (x1_1 + 1)) + 1)) + 1)) + 1)) + 1)) + 1))).bind fun t157 => ((some (y156.set (x5_1 : Int).toNat (⟨(⟨(rd_T95 y156 x5_1).f0.f0, (rd_T95 y156 x5_1).f0.f1⟩ : S25), (rd_T95 y156 x5_1).f1, (rd_T95 y156 x5_1).f2, (rd_T95 y156 x5_1).f3, (⟨(rd_T95 y156 x5_1).f4.f0, t157⟩ : S93), (rd_T95 y156 x5_1).f5, (rd_T95 y156 x5_1).f6⟩ : S95) : List (S95))).bind fun y158 => ((laws_markText.f k1 (wrap64 ((wrap64 ((wrap64 ((wrap64 ((wrap64 ((wrap64 ((wrap64 (x1_1 + 1)) + 1)) + 1)) + 1)) + 1)) + 1)) + 1))).bind fun t159 => ((some (y158.set (x5_1 : Int).toNat (⟨(⟨(rd_T95 y158 x5_1).f0.f0, (rd_T95 y158 x5_1).f0.f1⟩ : S25), (rd_T95 y158 x5_1).f1, (rd_T95 y158 x5_1).f2, (rd_T95 y158 x5_1).f3, (⟨(rd_T95 y158 x5_1).f4.f0, (rd_T95 y158 x5_1).f4.f1⟩ : S93), t159, (rd_T95 y158 x5_1).f6⟩ : S95) : List (S95))).bind fun y160 => ((laws_markText.f k1 (wrap64 ((wrap64 ((wrap64 ((wrap64 ((wrap64 ((wrap64 ((wrap64 ((wrap64 (x1_1 + 1)) + 1)) + 1)) + 1)) + 1)) + 1)) + 1)) + 1))).bind fun t161 => (laws_markDirChangeS.l0 k1 (y160.set (x5_1 : Int).toNat (⟨(⟨(rd_T95 y160 x5_1).f0.f0, (rd_T95 y160 x5_1).f0.f1⟩ : S25), (rd_T95 y160 x5_1).f1, (rd_T95 y160 x5_1).f2, (rd_T95 y160 x5_1).f3, (⟨(rd_T95 y160 x5_1).f4.f0, (rd_T95 y160 x5_1).f4.f1⟩ : S93), (rd_T95 y160 x5_1).f5, t161⟩ : S95)) (wrap64 ((wrap64 ((wrap64 ((wrap64 ((wrap64 ((wrap64 ((wrap64 ((wrap64 ((wrap64 (x1_1 + 1)) + 1)) + 1)) + 1)) + 1)) + 1)) + 1)) + 1)) + 1)) (wrap64 (x5_1 + 1)))))))))) = some (r1, r2) := by first | (rw [hy154]; with_reducible exact H) | (have H2_ := (Option.bind_some _ _).symm.trans H; rw [hy154]; with_reducible exact H2_) | (have H2_ := (Option.bind_some _ _).symm.trans H; with_reducible exact H2_) | with_reducible exact H | (rw [hy154]; exact H) | exact H
     have Ny154 := Aside0.mk hy154
     clear hy154
     replace H := Option.bind_eq_some_iff.mp H
     obtain ⟨t155, A100, H⟩ := H
     try dsimp only at H
     have A10 := Aside0.mk A100
     clear A100
     obtain ⟨y156, hy156⟩ : ∃ y_ : List (S95), y_ = (y154.set (x5_1 : Int).toNat (⟨(⟨(rd_T95 y154 x5_1).f0.f0, (rd_T95 y154 x5_1).f0.f1⟩ : S25), (rd_T95 y154 x5_1).f1, (rd_T95 y154 x5_1).f2, (rd_T95 y154 x5_1).f3, (⟨t155, (rd_T95 y154 x5_1).f4.f1⟩ : S93), (rd_T95 y154 x5_1).f5, (rd_T95 y154 x5_1).f6⟩ : S95)) := ⟨_, rfl⟩
     replace H : ((laws_markText.f k1 (wrap64 ((wrap64 ((wrap64 ((wrap64 ((wrap64 ((wrap64 (x1_1 + 1)) + 1)) + 1)) + 1)) + 1)) + 1))).bind fun t157 => ((some (y156.set (x5_1 : Int).toNat (⟨(⟨(rd_T95 y156 x5_1).f0.f0, (rd_T95 y156 x5_1).f0.f1⟩ : S25), (rd_T95 y156 x5_1).f1, (rd_T95 y156 x5_1).f2, (rd_T95 y156 x5_1).f3, (⟨(rd_T95 y156 x5_1).f4.f0, t157⟩ : S93), (rd_T95 y156 x5_1).f5, (rd_T95 y156 x5_1).f6⟩ : S95) : List (S95))).bind fun y158 => ((laws_markText.f k1 (wrap64 ((wrap64 ((wrap64 ((wrap64 ((wrap64 ((wrap64 ((wrap64 (x1_1 + 1)) + 1)) + 1)) + 1)) + 1)) + 1)) + 1))).bind fun t159 => ((some (y158.set (x5_1 : Int).toNat (⟨(⟨(rd_T95 y158 x5_1).f0.f0, (rd_T95 y158 x5_1).f0.f1⟩ : S25), (rd_T95 y158 x5_1).f1, (rd_T95 y158 x5_1).f2, (rd_T95 y158 x5_1).f3, (⟨(rd_T95 y158 x5_1).f4.f0, (rd_T95 y158 x5_1).f4.f1⟩ : S93), t159, (rd_T95 y158 x5_1).f6⟩ : S95) : List (S95))).bind fun y160 => ((laws_markText.f k1 (wrap64 ((wrap64 ((wrap64 ((wrap64 ((wrap64 ((wrap64 ((wrap64 ((wrap64 (x1_1 + 1)) + 1)) + 1)) + 1)) + 1)) + 1)) + 1)) + 1))).bind fun t161 => (laws_markDirChangeS.l0 k1 (y160.set (x5_1 : Int).toNat (⟨(⟨(rd_T95 y160 x5_1).f0.f0, (rd_T95 y160 x5_1).f0.f1⟩ : S25), (rd_T95 y160 x5_1).f1, (rd_T95 y160 x5_1).f2, (rd_T95 y160 x5_1).f3, (⟨(rd_T95 y160 x5_1).f4.f0, (rd_T95 y160 x5_1).f4.f1⟩ : S93), (rd_T95 y160 x5_1).f5, t161⟩ : S95)) (wrap64 ((wrap64 ((wrap64 ((wrap64 ((wrap64 ((wrap64 ((wrap64 ((wrap64 ((wrap64 (x1_1 + 1)) + 1)) + 1)) + 1)) + 1)) + 1)) + 1)) + 1)) + 1)) (wrap64 (x5_1 + 1)))))))) = some (r1, r2) := by first | (rw [hy156]; with_reducible exact H) | (have H2_ := (Option.bind_some _ _).symm.trans H; rw [hy156]; with_reducible exact H2_) | (have H2_ := (Option.bind_some _ _).symm.trans H; with_reducible exact H2_) | with_reducible exact H | (rw [hy156]; exact H) | exact H
     have Ny156 := Aside0.mk hy156
     clear hy156
     replace H := Option.bind_eq_some_iff.mp H
     obtain ⟨t157, A120, H⟩ := H
     try dsimp only at H
     have A12 := Aside0.mk A120
     clear A120
     obtain ⟨y158, hy158⟩ : ∃ y_ : List (S95), y_ = (y156.set (x5_1 : Int).toNat (⟨(⟨(rd_T95 y156 x5_1).f0.f0, (rd_T95 y156 x5_1).f0.f1⟩ : S25), (rd_T95 y156 x5_1).f1, (rd_T95 y156 x5_1).f2, (rd_T95 y156 x5_1).f3, (⟨(rd_T95 y156 x5_1).f4.f0, t157⟩ : S93), (rd_T95 y156 x5_1).f5, (rd_T95 y156 x5_1).f6⟩ : S95)) := ⟨_, rfl⟩
     replace H : ((laws_markText.f k1 (wrap64 ((wrap64 ((wrap64 ((wrap64 ((wrap64 ((wrap64 ((wrap64 (x1_1 + 1)) + 1)) + 1)) + 1)) + 1)) + 1)) + 1))).bind fun t159 => ((some (y158.set (x5_1 : Int).toNat (⟨(⟨(rd_T95 y158 x5_1).f0.f0, (rd_T95 y158 x5_1).f0.f1⟩ : S25), (rd_T95 y158 x5_1).f1, (rd_T95 y158 x5_1).f2, (rd_T95 y158 x5_1).f3, (⟨(rd_T95 y158 x5_1).f4.f0, (rd_T95 y158 x5_1).f4.f1⟩ : S93), t159, (rd_T95 y158 x5_1).f6⟩ : S95) : List (S95))).bind fun y160 => ((laws_markText.f k1 (wrap64 ((wrap64 ((wrap64 ((wrap64 ((wrap64 ((wrap64 ((wrap64 ((wrap64 (x1_1 + 1)) + 1)) + 1)) + 1)) + 1)) + 1)) + 1)) + 1))).bind fun t161 => (laws_markDirChangeS.l0 k1 (y160.set (x5_1 : Int).toNat (⟨(⟨(rd_T95 y160 x5_1).f0.f0, (rd_T95 y160 x5_1).f0.f1⟩ : S25), (rd_T95 y160 x5_1).f1, (rd_T95 y160 x5_1).f2, (rd_T95 y160 x5_1).f3, (⟨(rd_T95 y160 x5_1).f4.f0, (rd_T95 y160 x5_1).f4.f1⟩ : S93), (rd_T95 y160 x5_1).f5, t161⟩ : S95)) (wrap64 ((wrap64 ((wrap64 ((wrap64 ((wrap64 ((wrap64 ((wrap64 ((wrap64 ((wrap64 (x1_1 + 1)) + 1)) + 1)) + 1)) + 1)) + 1)) + 1)) + 1)) + 1)) (wrap64 (x5_1 + 1)))))) = some (r1, r2) := by first | (rw [hy158]; with_reducible exact H) | (have H2_ := (Option.bind_some _ _).symm.trans H; rw [hy158]; with_reducible exact H2_) | (have H2_ := (Option.bind_some _ _).symm.trans H; with_reducible exact H2_) | with_reducible exact H | (rw [hy158]; exact H) | exact H
     have Ny158 := Aside0.mk hy158
     clear hy158
     replace H := Option.bind_eq_some_iff.mp H
     obtain ⟨t159, A140, H⟩ := H
     try dsimp only at H
     have A14 := Aside0.mk A140
     clear A140
     obtain ⟨y160, hy160⟩ : ∃ y_ : List (S95), y_ = (y158.set (x5_1 : Int).toNat (⟨(⟨(rd_T95 y158 x5_1).f0.f0, (rd_T95 y158 x5_1).f0.f1⟩ : S25), (rd_T95 y158 x5_1).f1, (rd_T95 y158 x5_1).f2, (rd_T95 y158 x5_1).f3, (⟨(rd_T95 y158 x5_1).f4.f0, (rd_T95 y158 x5_1).f4.f1⟩ : S93), t159, (rd_T95 y158 x5_1).f6⟩ : S95)) := ⟨_, rfl⟩
     replace H : ((laws_markText.f k1 (wrap64 ((wrap64 ((wrap64 ((wrap64 ((wrap64 ((wrap64 ((wrap64 ((wrap64 (x1_1 + 1)) + 1)) + 1)) + 1)) + 1)) + 1)) + 1)) + 1))).bind fun t161 => (laws_markDirChangeS.l0 k1 (y160.set (x5_1 : Int).toNat (⟨(⟨(rd_T95 y160 x5_1).f0.f0, (rd_T95 y160 x5_1).f0.f1⟩ : S25), (rd_T95 y160 x5_1).f1, (rd_T95 y160 x5_1).f2, (rd_T95 y160 x5_1).f3, (⟨(rd_T95 y160 x5_1).f4.f0, (rd_T95 y160 x5_1).f4.f1⟩ : S93), (rd_T95 y160 x5_1).f5, t161⟩ : S95)) (wrap64 ((wrap64 ((wrap64 ((wrap64 ((wrap64 ((wrap64 ((wrap64 ((wrap64 ((wrap64 (x1_1 + 1)) + 1)) + 1)) + 1)) + 1)) + 1)) + 1)) + 1)) + 1)) (wrap64 (x5_1 + 1)))) = some (r1, r2) := by first | (rw [hy160]; with_reducible exact H) | (have H2_ := (Option.bind_some _ _).symm.trans H; rw [hy160]; with_reducible exact H2_) | (have H2_ := (Option.bind_some _ _).symm.trans H; with_reducible exact H2_) | with_reducible exact H | (rw [hy160]; exact H) | exact H
     have Ny160 := Aside0.mk hy160
     clear hy160
     replace H := Option.bind_eq_some_iff.mp H
     obtain ⟨t161, A160, H⟩ := H
     try dsimp only at H
     have A16 := Aside0.mk A160
     clear A160
     obtain ⟨y162, hy162⟩ : ∃ y_ : List (S95), y_ = (y160.set (x5_1 : Int).toNat (⟨(⟨(rd_T95 y160 x5_1).f0.f0, (rd_T95 y160 x5_1).f0.f1⟩ : S25), (rd_T95 y160 x5_1).f1, (rd_T95 y160 x5_1).f2, (rd_T95 y160 x5_1).f3, (⟨(rd_T95 y160 x5_1).f4.f0, (rd_T95 y160 x5_1).f4.f1⟩ : S93), (rd_T95 y160 x5_1).f5, t161⟩ : S95)) := ⟨_, rfl⟩
     replace H : (laws_markDirChangeS.l0 k1 y162 (wrap64 ((wrap64 ((wrap64 ((wrap64 ((wrap64 ((wrap64 ((wrap64 ((wrap64 ((wrap64 (x1_1 + 1)) + 1)) + 1)) + 1)) + 1)) + 1)) + 1)) + 1)) + 1)) (wrap64 (x5_1 + 1))) = some (r1, r2) := by first | (rw [hy162]; with_reducible exact H) | (have H2_ := (Option.bind_some _ _).symm.trans H; rw [hy162]; with_reducible exact H2_) | (have H2_ := (Option.bind_some _ _).symm.trans H; with_reducible exact H2_) | with_reducible exact H | (rw [hy162]; exact H) | exact H
     have Ny162 := Aside0.mk hy162
     clear hy162
     have H' := Aside0.mk H
     clear H
     obtain ⟨Ao18, co18, eo18⟩ := Kd.R_slice HO_0.out
     subst eo18
     have p5 : 0 ≤ (x5_1 : Int) := of_decide_eq_true (by first | (with_reducible assumption) | assumption)
     have q5 : (x5_1 : Int) < ((x0_1.length : Int) : Int) := of_decide_eq_true (by first | (with_reducible assumption) | assumption)
     obtain ⟨go5, co5, eo5, gb5, gl5, cl5, HG5⟩ := Kd.R_form HO_0.out (by omega)
     (first | cases eo5 | (injection eo5 with ea_ en_ ec_; (first | subst ea_ | (injection ea_ with ea_; subst ea_)); subst ec_; clear en_))
     have GB5 := Aside0.mk gb5
     have GG5 := Aside0.mk HG5
     clear gb5 gl5 HG5
     have HMgo5 := Aside0.mk (show (P0_ go5 ∨ w.heap.size ≤ go5) from (HO_0.out.1 _ rfl))
     obtain ⟨ce5, hcl5, hM5, hcc5, hfr5⟩ := Kd.R_elem HO_0.out z95 (x5_1 : Int) p5 q5
     obtain rfl := k95_openM hM5
     have hx5_0 : wr.cell? ⟨go5, (x5_1 : Int).toNat * 9, none⟩ = some (.int .i64 ((rd_T95 x0_1 x5_1).f0.f0)) := hcc5 0 _ rfl
     have hx5_1 : wr.cell? ⟨go5, (x5_1 : Int).toNat * 9 + 1, none⟩ = some (.int .i64 ((rd_T95 x0_1 x5_1).f0.f1)) := hcc5 1 _ rfl
     have hx5_2 : wr.cell? ⟨go5, (x5_1 : Int).toNat * 9 + 2, none⟩ = some (.int .i64 ((rd_T95 x0_1 x5_1).f1)) := hcc5 2 _ rfl
     have hx5_3 : wr.cell? ⟨go5, (x5_1 : Int).toNat * 9 + 3, none⟩ = some (.int .i64 ((rd_T95 x0_1 x5_1).f2)) := hcc5 3 _ rfl
     have hx5_4 : wr.cell? ⟨go5, (x5_1 : Int).toNat * 9 + 4, none⟩ = some (.int .i64 ((rd_T95 x0_1 x5_1).f3)) := hcc5 4 _ rfl
     have hx5_5 : wr.cell? ⟨go5, (x5_1 : Int).toNat * 9 + 5, none⟩ = some (.string ((rd_T95 x0_1 x5_1).f4.f0)) := hcc5 5 _ rfl
     have hx5_6 : wr.cell? ⟨go5, (x5_1 : Int).toNat * 9 + 6, none⟩ = some (.string ((rd_T95 x0_1 x5_1).f4.f1)) := hcc5 6 _ rfl
     have hx5_7 : wr.cell? ⟨go5, (x5_1 : Int).toNat * 9 + 7, none⟩ = some (.string ((rd_T95 x0_1 x5_1).f5)) := hcc5 7 _ rfl
     have hx5_8 : wr.cell? ⟨go5, (x5_1 : Int).toNat * 9 + 8, none⟩ = some (.string ((rd_T95 x0_1 x5_1).f6)) := hcc5 8 _ rfl
     have hf5_0 : wr.frozen? ⟨go5, (x5_1 : Int).toNat * 9, none⟩ = false := hfr5 0
     have hf5_1 : wr.frozen? ⟨go5, (x5_1 : Int).toNat * 9 + 1, none⟩ = false := hfr5 1
     have hf5_2 : wr.frozen? ⟨go5, (x5_1 : Int).toNat * 9 + 2, none⟩ = false := hfr5 2
     have hf5_3 : wr.frozen? ⟨go5, (x5_1 : Int).toNat * 9 + 3, none⟩ = false := hfr5 3
     have hf5_4 : wr.frozen? ⟨go5, (x5_1 : Int).toNat * 9 + 4, none⟩ = false := hfr5 4
     have hf5_5 : wr.frozen? ⟨go5, (x5_1 : Int).toNat * 9 + 5, none⟩ = false := hfr5 5
     have hf5_6 : wr.frozen? ⟨go5, (x5_1 : Int).toNat * 9 + 6, none⟩ = false := hfr5 6
     have hf5_7 : wr.frozen? ⟨go5, (x5_1 : Int).toNat * 9 + 7, none⟩ = false := hfr5 7
     have hf5_8 : wr.frozen? ⟨go5, (x5_1 : Int).toNat * 9 + 8, none⟩ = false := hfr5 8
     clear hcl5 hcc5 hfr5 hM5
     replace p5 := eq_true p5
     replace q5 := eq_true q5
     have HX19 := Aside0.mk (show Kd.R k95 95 wr w0.heap.size (fun k_ => (P0_ k_ ∨ w.heap.size ≤ k_)) (.slice (some ⟨go5, 0, none⟩) x0_1.length co18) x0_1 from (by (with_reducible repeat (first | apply Kd.R_alloc | apply Kd.R_drewN | apply Kd.R_drew)); exact HO_0.out))
     obtain ⟨ce19, hcl19, hM19, hcc19, hfr19⟩ := Kd.R_elem HX19.out z95 (x5_1 : Int) (of_decide_eq_true (by first | (with_reducible assumption) | assumption)) (by have h_ : (x5_1 : Int) < ((x0_1.length : Int) : Int) := of_decide_eq_true (by first | (with_reducible assumption) | assumption); first | exact h_ | (have e_ := (Kd.R_reads' HO_0.out).1; omega) | simpa using h_)
     obtain rfl := k95_openM hM19
     have HP19 := Kd.R_seg HX19.out (x5_1 : Int) (of_decide_eq_true (by first | (with_reducible assumption) | assumption)) (by have h_ : (x5_1 : Int) < ((x0_1.length : Int) : Int) := of_decide_eq_true (by first | (with_reducible assumption) | assumption); first | exact h_ | (have e_ := (Kd.R_reads' HO_0.out).1; omega) | simpa using h_) (seg := [.int .i64 x1_1]) (j := 0) hcl19 hcc19 (show 1 ≤ 9 from by decide) (x' := (⟨(⟨x1_1, (rd_T95 x0_1 x5_1).f0.f1⟩ : S25), (rd_T95 x0_1 x5_1).f1, (rd_T95 x0_1 x5_1).f2, (rd_T95 x0_1 x5_1).f3, (⟨(rd_T95 x0_1 x5_1).f4.f0, (rd_T95 x0_1 x5_1).f4.f1⟩ : S93), (rd_T95 x0_1 x5_1).f5, (rd_T95 x0_1 x5_1).f6⟩ : S95)) (k95_mkM _ _ _ (⟨(⟨x1_1, (rd_T95 x0_1 x5_1).f0.f1⟩ : S25), (rd_T95 x0_1 x5_1).f1, (rd_T95 x0_1 x5_1).f2, (rd_T95 x0_1 x5_1).f3, (⟨(rd_T95 x0_1 x5_1).f4.f0, (rd_T95 x0_1 x5_1).f4.f1⟩ : S93), (rd_T95 x0_1 x5_1).f5, (rd_T95 x0_1 x5_1).f6⟩ : S95) ) (fun _ hk => hk)
     have hx19_0 := hcc19 0 _ rfl
     (try simp only [show (k95).sz = 9 from rfl, Nat.mul_one, Nat.add_zero] at hx19_0)
     have hf19_0 := hfr19 0
     (try simp only [show (k95).sz = 9 from rfl, Nat.mul_one, Nat.add_zero] at hf19_0)
     clear hcl19 hcc19 hfr19 hM19
     go_wp2_with (first | ((with_reducible refine gate_store (t := 3) (p := 17) rfl ?_); refine store_event (t := 3) (p := 17) (v := ?vo_w20) (w1 := (wr.setCell ⟨go5, (x5_1 : Int).toNat * 9, none⟩ (.int .i64 x1_1))) ?hg ?ho ?hn ?hr ?_; (case ho => rfl); (case hg => rfl); (case hn => rfl); (case hr => first | (go_simp; done) | (go_simp; rfl)); intro w20 hw; have hg : wr.grownBy w20 (some go5) := (by rw [hw]; exact HP19.2); have hp_ : Kd.R k95 95 w20 w0.heap.size (fun k_ => (P0_ k_ ∨ w.heap.size ≤ k_)) (.slice (some ⟨go5, 0, none⟩) x0_1.length co18) y150 := (by rw [hw, Ny150.out]; exact HP19.1); clear HP19; have n0_ := Aside0.mk (hp_); have n1_ := Aside0.mk ((by rw [hw]; exact below_set (HB.out) GB5.out : Below w0.heap.size w0 w20)); have n2_ := Aside0.mk (Kept.of_grown (S := (fun k_ => P0_ k_)) hg (by repeat (first | (with_reducible first | exact HK.out | apply Kept.alloc | apply Kept.drewN | apply Kept.drew) | exact HK.out)) (fun k_ e_ => (HO_0.out.1 k_ e_))); clear HO_0; clear HB; clear HK; have HO_0 := n0_; have HB := n1_; have HK := n2_; clear n0_ n1_ n2_; clear hg hw hp_; have p6 : 0 ≤ (x5_1 : Int) := of_decide_eq_true (by first | (with_reducible assumption) | assumption); have q6 : (x5_1 : Int) < ((x0_1.length : Int) : Int) := of_decide_eq_true (by first | (with_reducible assumption) | assumption); obtain ⟨ce6, hcl6, hM6, hcc6, hfr6⟩ := Kd.R_elem HO_0.out z95 (x5_1 : Int) p6 q6; obtain rfl := k95_openM hM6; have hx6_0 : w20.cell? ⟨go5, (x5_1 : Int).toNat * 9, none⟩ = some (.int .i64 ((rd_T95 y150 x5_1).f0.f0)) := hcc6 0 _ rfl; have hx6_1 : w20.cell? ⟨go5, (x5_1 : Int).toNat * 9 + 1, none⟩ = some (.int .i64 ((rd_T95 y150 x5_1).f0.f1)) := hcc6 1 _ rfl; have hx6_2 : w20.cell? ⟨go5, (x5_1 : Int).toNat * 9 + 2, none⟩ = some (.int .i64 ((rd_T95 y150 x5_1).f1)) := hcc6 2 _ rfl; have hx6_3 : w20.cell? ⟨go5, (x5_1 : Int).toNat * 9 + 3, none⟩ = some (.int .i64 ((rd_T95 y150 x5_1).f2)) := hcc6 3 _ rfl; have hx6_4 : w20.cell? ⟨go5, (x5_1 : Int).toNat * 9 + 4, none⟩ = some (.int .i64 ((rd_T95 y150 x5_1).f3)) := hcc6 4 _ rfl; have hx6_5 : w20.cell? ⟨go5, (x5_1 : Int).toNat * 9 + 5, none⟩ = some (.string ((rd_T95 y150 x5_1).f4.f0)) := hcc6 5 _ rfl; have hx6_6 : w20.cell? ⟨go5, (x5_1 : Int).toNat * 9 + 6, none⟩ = some (.string ((rd_T95 y150 x5_1).f4.f1)) := hcc6 6 _ rfl; have hx6_7 : w20.cell? ⟨go5, (x5_1 : Int).toNat * 9 + 7, none⟩ = some (.string ((rd_T95 y150 x5_1).f5)) := hcc6 7 _ rfl; have hx6_8 : w20.cell? ⟨go5, (x5_1 : Int).toNat * 9 + 8, none⟩ = some (.string ((rd_T95 y150 x5_1).f6)) := hcc6 8 _ rfl; have hf6_0 : w20.frozen? ⟨go5, (x5_1 : Int).toNat * 9, none⟩ = false := hfr6 0; have hf6_1 : w20.frozen? ⟨go5, (x5_1 : Int).toNat * 9 + 1, none⟩ = false := hfr6 1; have hf6_2 : w20.frozen? ⟨go5, (x5_1 : Int).toNat * 9 + 2, none⟩ = false := hfr6 2; have hf6_3 : w20.frozen? ⟨go5, (x5_1 : Int).toNat * 9 + 3, none⟩ = false := hfr6 3; have hf6_4 : w20.frozen? ⟨go5, (x5_1 : Int).toNat * 9 + 4, none⟩ = false := hfr6 4; have hf6_5 : w20.frozen? ⟨go5, (x5_1 : Int).toNat * 9 + 5, none⟩ = false := hfr6 5; have hf6_6 : w20.frozen? ⟨go5, (x5_1 : Int).toNat * 9 + 6, none⟩ = false := hfr6 6; have hf6_7 : w20.frozen? ⟨go5, (x5_1 : Int).toNat * 9 + 7, none⟩ = false := hfr6 7; have hf6_8 : w20.frozen? ⟨go5, (x5_1 : Int).toNat * 9 + 8, none⟩ = false := hfr6 8; clear hcl6 hcc6 hfr6 hM6; replace p6 := eq_true p6; replace q6 := eq_true q6; have HX21 := Aside0.mk (show Kd.R k95 95 w20 w0.heap.size (fun k_ => (P0_ k_ ∨ w.heap.size ≤ k_)) (.slice (some ⟨go5, 0, none⟩) x0_1.length co18) y150 from (by (with_reducible repeat (first | apply Kd.R_alloc | apply Kd.R_drewN | apply Kd.R_drew)); exact HO_0.out)); obtain ⟨ce21, hcl21, hM21, hcc21, hfr21⟩ := Kd.R_elem HX21.out z95 (x5_1 : Int) (of_decide_eq_true (by first | (with_reducible assumption) | assumption)) (by have h_ : (x5_1 : Int) < ((x0_1.length : Int) : Int) := of_decide_eq_true (by first | (with_reducible assumption) | assumption); first | exact h_ | (have e_ := (Kd.R_reads' HO_0.out).1; omega) | simpa using h_); obtain rfl := k95_openM hM21; have HP21 := Kd.R_seg HX21.out (x5_1 : Int) (of_decide_eq_true (by first | (with_reducible assumption) | assumption)) (by have h_ : (x5_1 : Int) < ((x0_1.length : Int) : Int) := of_decide_eq_true (by first | (with_reducible assumption) | assumption); first | exact h_ | (have e_ := (Kd.R_reads' HO_0.out).1; omega) | simpa using h_) (seg := [.int .i64 (wrap64 (x1_1 + 1))]) (j := 1) hcl21 hcc21 (show 2 ≤ 9 from by decide) (x' := (⟨(⟨(rd_T95 y150 x5_1).f0.f0, wrap64 (x1_1 + 1)⟩ : S25), (rd_T95 y150 x5_1).f1, (rd_T95 y150 x5_1).f2, (rd_T95 y150 x5_1).f3, (⟨(rd_T95 y150 x5_1).f4.f0, (rd_T95 y150 x5_1).f4.f1⟩ : S93), (rd_T95 y150 x5_1).f5, (rd_T95 y150 x5_1).f6⟩ : S95)) (k95_mkM _ _ _ (⟨(⟨(rd_T95 y150 x5_1).f0.f0, wrap64 (x1_1 + 1)⟩ : S25), (rd_T95 y150 x5_1).f1, (rd_T95 y150 x5_1).f2, (rd_T95 y150 x5_1).f3, (⟨(rd_T95 y150 x5_1).f4.f0, (rd_T95 y150 x5_1).f4.f1⟩ : S93), (rd_T95 y150 x5_1).f5, (rd_T95 y150 x5_1).f6⟩ : S95) ) (fun _ hk => hk); have hx21_1 := hcc21 1 _ rfl; (try simp only [show (k95).sz = 9 from rfl, Nat.mul_one, Nat.add_zero] at hx21_1); have hf21_1 := hfr21 1; (try simp only [show (k95).sz = 9 from rfl, Nat.mul_one, Nat.add_zero] at hf21_1); clear hcl21 hcc21 hfr21 hM21) | ((with_reducible refine gate_store (t := 3) (p := 25) rfl ?_); refine store_event (t := 3) (p := 25) (v := ?vo_w22) (w1 := (w20.setCell ⟨go5, (x5_1 : Int).toNat * 9 + 1, none⟩ (.int .i64 (wrap64 (x1_1 + 1))))) ?hg ?ho ?hn ?hr ?_; (case ho => rfl); (case hg => rfl); (case hn => rfl); (case hr => first | (go_simp; done) | (go_simp; rfl)); intro w22 hw; have hg : w20.grownBy w22 (some go5) := (by rw [hw]; exact HP21.2); have hp_ : Kd.R k95 95 w22 w0.heap.size (fun k_ => (P0_ k_ ∨ w.heap.size ≤ k_)) (.slice (some ⟨go5, 0, none⟩) x0_1.length co18) y151 := (by rw [hw, Ny151.out]; exact HP21.1); clear HP21; have n0_ := Aside0.mk (hp_); have n1_ := Aside0.mk ((by rw [hw]; exact below_set (HB.out) GB5.out : Below w0.heap.size w0 w22)); have n2_ := Aside0.mk (Kept.of_grown (S := (fun k_ => P0_ k_)) hg (by repeat (first | (with_reducible first | exact HK.out | apply Kept.alloc | apply Kept.drewN | apply Kept.drew) | exact HK.out)) (fun k_ e_ => (HO_0.out.1 k_ e_))); clear HO_0; clear HB; clear HK; have HO_0 := n0_; have HB := n1_; have HK := n2_; clear n0_ n1_ n2_; clear hg hw hp_; have p7 : 0 ≤ (x5_1 : Int) := of_decide_eq_true (by first | (with_reducible assumption) | assumption); have q7 : (x5_1 : Int) < ((x0_1.length : Int) : Int) := of_decide_eq_true (by first | (with_reducible assumption) | assumption); obtain ⟨ce7, hcl7, hM7, hcc7, hfr7⟩ := Kd.R_elem HO_0.out z95 (x5_1 : Int) p7 q7; obtain rfl := k95_openM hM7; have hx7_0 : w22.cell? ⟨go5, (x5_1 : Int).toNat * 9, none⟩ = some (.int .i64 ((rd_T95 y151 x5_1).f0.f0)) := hcc7 0 _ rfl; have hx7_1 : w22.cell? ⟨go5, (x5_1 : Int).toNat * 9 + 1, none⟩ = some (.int .i64 ((rd_T95 y151 x5_1).f0.f1)) := hcc7 1 _ rfl; have hx7_2 : w22.cell? ⟨go5, (x5_1 : Int).toNat * 9 + 2, none⟩ = some (.int .i64 ((rd_T95 y151 x5_1).f1)) := hcc7 2 _ rfl; have hx7_3 : w22.cell? ⟨go5, (x5_1 : Int).toNat * 9 + 3, none⟩ = some (.int .i64 ((rd_T95 y151 x5_1).f2)) := hcc7 3 _ rfl; have hx7_4 : w22.cell? ⟨go5, (x5_1 : Int).toNat * 9 + 4, none⟩ = some (.int .i64 ((rd_T95 y151 x5_1).f3)) := hcc7 4 _ rfl; have hx7_5 : w22.cell? ⟨go5, (x5_1 : Int).toNat * 9 + 5, none⟩ = some (.string ((rd_T95 y151 x5_1).f4.f0)) := hcc7 5 _ rfl; have hx7_6 : w22.cell? ⟨go5, (x5_1 : Int).toNat * 9 + 6, none⟩ = some (.string ((rd_T95 y151 x5_1).f4.f1)) := hcc7 6 _ rfl; have hx7_7 : w22.cell? ⟨go5, (x5_1 : Int).toNat * 9 + 7, none⟩ = some (.string ((rd_T95 y151 x5_1).f5)) := hcc7 7 _ rfl; have hx7_8 : w22.cell? ⟨go5, (x5_1 : Int).toNat * 9 + 8, none⟩ = some (.string ((rd_T95 y151 x5_1).f6)) := hcc7 8 _ rfl; have hf7_0 : w22.frozen? ⟨go5, (x5_1 : Int).toNat * 9, none⟩ = false := hfr7 0; have hf7_1 : w22.frozen? ⟨go5, (x5_1 : Int).toNat * 9 + 1, none⟩ = false := hfr7 1; have hf7_2 : w22.frozen? ⟨go5, (x5_1 : Int).toNat * 9 + 2, none⟩ = false := hfr7 2; have hf7_3 : w22.frozen? ⟨go5, (x5_1 : Int).toNat * 9 + 3, none⟩ = false := hfr7 3; have hf7_4 : w22.frozen? ⟨go5, (x5_1 : Int).toNat * 9 + 4, none⟩ = false := hfr7 4; have hf7_5 : w22.frozen? ⟨go5, (x5_1 : Int).toNat * 9 + 5, none⟩ = false := hfr7 5; have hf7_6 : w22.frozen? ⟨go5, (x5_1 : Int).toNat * 9 + 6, none⟩ = false := hfr7 6; have hf7_7 : w22.frozen? ⟨go5, (x5_1 : Int).toNat * 9 + 7, none⟩ = false := hfr7 7; have hf7_8 : w22.frozen? ⟨go5, (x5_1 : Int).toNat * 9 + 8, none⟩ = false := hfr7 8; clear hcl7 hcc7 hfr7 hM7; replace p7 := eq_true p7; replace q7 := eq_true q7; have HX23 := Aside0.mk (show Kd.R k95 95 w22 w0.heap.size (fun k_ => (P0_ k_ ∨ w.heap.size ≤ k_)) (.slice (some ⟨go5, 0, none⟩) x0_1.length co18) y151 from (by (with_reducible repeat (first | apply Kd.R_alloc | apply Kd.R_drewN | apply Kd.R_drew)); exact HO_0.out)); obtain ⟨ce23, hcl23, hM23, hcc23, hfr23⟩ := Kd.R_elem HX23.out z95 (x5_1 : Int) (of_decide_eq_true (by first | (with_reducible assumption) | assumption)) (by have h_ : (x5_1 : Int) < ((x0_1.length : Int) : Int) := of_decide_eq_true (by first | (with_reducible assumption) | assumption); first | exact h_ | (have e_ := (Kd.R_reads' HO_0.out).1; omega) | simpa using h_); obtain rfl := k95_openM hM23; have HP23 := Kd.R_seg HX23.out (x5_1 : Int) (of_decide_eq_true (by first | (with_reducible assumption) | assumption)) (by have h_ : (x5_1 : Int) < ((x0_1.length : Int) : Int) := of_decide_eq_true (by first | (with_reducible assumption) | assumption); first | exact h_ | (have e_ := (Kd.R_reads' HO_0.out).1; omega) | simpa using h_) (seg := [.int .i64 (wrap64 ((wrap64 (x1_1 + 1)) + 1))]) (j := 2) hcl23 hcc23 (show 3 ≤ 9 from by decide) (x' := (⟨(⟨(rd_T95 y151 x5_1).f0.f0, (rd_T95 y151 x5_1).f0.f1⟩ : S25), wrap64 ((wrap64 (x1_1 + 1)) + 1), (rd_T95 y151 x5_1).f2, (rd_T95 y151 x5_1).f3, (⟨(rd_T95 y151 x5_1).f4.f0, (rd_T95 y151 x5_1).f4.f1⟩ : S93), (rd_T95 y151 x5_1).f5, (rd_T95 y151 x5_1).f6⟩ : S95)) (k95_mkM _ _ _ (⟨(⟨(rd_T95 y151 x5_1).f0.f0, (rd_T95 y151 x5_1).f0.f1⟩ : S25), wrap64 ((wrap64 (x1_1 + 1)) + 1), (rd_T95 y151 x5_1).f2, (rd_T95 y151 x5_1).f3, (⟨(rd_T95 y151 x5_1).f4.f0, (rd_T95 y151 x5_1).f4.f1⟩ : S93), (rd_T95 y151 x5_1).f5, (rd_T95 y151 x5_1).f6⟩ : S95) ) (fun _ hk => hk); have hx23_2 := hcc23 2 _ rfl; (try simp only [show (k95).sz = 9 from rfl, Nat.mul_one, Nat.add_zero] at hx23_2); have hf23_2 := hfr23 2; (try simp only [show (k95).sz = 9 from rfl, Nat.mul_one, Nat.add_zero] at hf23_2); clear hcl23 hcc23 hfr23 hM23) | ((with_reducible refine gate_store (t := 3) (p := 32) rfl ?_); refine store_event (t := 3) (p := 32) (v := ?vo_w24) (w1 := (w22.setCell ⟨go5, (x5_1 : Int).toNat * 9 + 2, none⟩ (.int .i64 (wrap64 ((wrap64 (x1_1 + 1)) + 1))))) ?hg ?ho ?hn ?hr ?_; (case ho => rfl); (case hg => rfl); (case hn => rfl); (case hr => first | (go_simp; done) | (go_simp; rfl)); intro w24 hw; have hg : w22.grownBy w24 (some go5) := (by rw [hw]; exact HP23.2); have hp_ : Kd.R k95 95 w24 w0.heap.size (fun k_ => (P0_ k_ ∨ w.heap.size ≤ k_)) (.slice (some ⟨go5, 0, none⟩) x0_1.length co18) y152 := (by rw [hw, Ny152.out]; exact HP23.1); clear HP23; have n0_ := Aside0.mk (hp_); have n1_ := Aside0.mk ((by rw [hw]; exact below_set (HB.out) GB5.out : Below w0.heap.size w0 w24)); have n2_ := Aside0.mk (Kept.of_grown (S := (fun k_ => P0_ k_)) hg (by repeat (first | (with_reducible first | exact HK.out | apply Kept.alloc | apply Kept.drewN | apply Kept.drew) | exact HK.out)) (fun k_ e_ => (HO_0.out.1 k_ e_))); clear HO_0; clear HB; clear HK; have HO_0 := n0_; have HB := n1_; have HK := n2_; clear n0_ n1_ n2_; clear hg hw hp_; have p8 : 0 ≤ (x5_1 : Int) := of_decide_eq_true (by first | (with_reducible assumption) | assumption); have q8 : (x5_1 : Int) < ((x0_1.length : Int) : Int) := of_decide_eq_true (by first | (with_reducible assumption) | assumption); obtain ⟨ce8, hcl8, hM8, hcc8, hfr8⟩ := Kd.R_elem HO_0.out z95 (x5_1 : Int) p8 q8; obtain rfl := k95_openM hM8; have hx8_0 : w24.cell? ⟨go5, (x5_1 : Int).toNat * 9, none⟩ = some (.int .i64 ((rd_T95 y152 x5_1).f0.f0)) := hcc8 0 _ rfl; have hx8_1 : w24.cell? ⟨go5, (x5_1 : Int).toNat * 9 + 1, none⟩ = some (.int .i64 ((rd_T95 y152 x5_1).f0.f1)) := hcc8 1 _ rfl; have hx8_2 : w24.cell? ⟨go5, (x5_1 : Int).toNat * 9 + 2, none⟩ = some (.int .i64 ((rd_T95 y152 x5_1).f1)) := hcc8 2 _ rfl; have hx8_3 : w24.cell? ⟨go5, (x5_1 : Int).toNat * 9 + 3, none⟩ = some (.int .i64 ((rd_T95 y152 x5_1).f2)) := hcc8 3 _ rfl; have hx8_4 : w24.cell? ⟨go5, (x5_1 : Int).toNat * 9 + 4, none⟩ = some (.int .i64 ((rd_T95 y152 x5_1).f3)) := hcc8 4 _ rfl; have hx8_5 : w24.cell? ⟨go5, (x5_1 : Int).toNat * 9 + 5, none⟩ = some (.string ((rd_T95 y152 x5_1).f4.f0)) := hcc8 5 _ rfl; have hx8_6 : w24.cell? ⟨go5, (x5_1 : Int).toNat * 9 + 6, none⟩ = some (.string ((rd_T95 y152 x5_1).f4.f1)) := hcc8 6 _ rfl; have hx8_7 : w24.cell? ⟨go5, (x5_1 : Int).toNat * 9 + 7, none⟩ = some (.string ((rd_T95 y152 x5_1).f5)) := hcc8 7 _ rfl; have hx8_8 : w24.cell? ⟨go5, (x5_1 : Int).toNat * 9 + 8, none⟩ = some (.string ((rd_T95 y152 x5_1).f6)) := hcc8 8 _ rfl; have hf8_0 : w24.frozen? ⟨go5, (x5_1 : Int).toNat * 9, none⟩ = false := hfr8 0; have hf8_1 : w24.frozen? ⟨go5, (x5_1 : Int).toNat * 9 + 1, none⟩ = false := hfr8 1; have hf8_2 : w24.frozen? ⟨go5, (x5_1 : Int).toNat * 9 + 2, none⟩ = false := hfr8 2; have hf8_3 : w24.frozen? ⟨go5, (x5_1 : Int).toNat * 9 + 3, none⟩ = false := hfr8 3; have hf8_4 : w24.frozen? ⟨go5, (x5_1 : Int).toNat * 9 + 4, none⟩ = false := hfr8 4; have hf8_5 : w24.frozen? ⟨go5, (x5_1 : Int).toNat * 9 + 5, none⟩ = false := hfr8 5; have hf8_6 : w24.frozen? ⟨go5, (x5_1 : Int).toNat * 9 + 6, none⟩ = false := hfr8 6; have hf8_7 : w24.frozen? ⟨go5, (x5_1 : Int).toNat * 9 + 7, none⟩ = false := hfr8 7; have hf8_8 : w24.frozen? ⟨go5, (x5_1 : Int).toNat * 9 + 8, none⟩ = false := hfr8 8; clear hcl8 hcc8 hfr8 hM8; replace p8 := eq_true p8; replace q8 := eq_true q8; have HX25 := Aside0.mk (show Kd.R k95 95 w24 w0.heap.size (fun k_ => (P0_ k_ ∨ w.heap.size ≤ k_)) (.slice (some ⟨go5, 0, none⟩) x0_1.length co18) y152 from (by (with_reducible repeat (first | apply Kd.R_alloc | apply Kd.R_drewN | apply Kd.R_drew)); exact HO_0.out)); obtain ⟨ce25, hcl25, hM25, hcc25, hfr25⟩ := Kd.R_elem HX25.out z95 (x5_1 : Int) (of_decide_eq_true (by first | (with_reducible assumption) | assumption)) (by have h_ : (x5_1 : Int) < ((x0_1.length : Int) : Int) := of_decide_eq_true (by first | (with_reducible assumption) | assumption); first | exact h_ | (have e_ := (Kd.R_reads' HO_0.out).1; omega) | simpa using h_); obtain rfl := k95_openM hM25; have HP25 := Kd.R_seg HX25.out (x5_1 : Int) (of_decide_eq_true (by first | (with_reducible assumption) | assumption)) (by have h_ : (x5_1 : Int) < ((x0_1.length : Int) : Int) := of_decide_eq_true (by first | (with_reducible assumption) | assumption); first | exact h_ | (have e_ := (Kd.R_reads' HO_0.out).1; omega) | simpa using h_) (seg := [.int .i64 (wrap64 ((wrap64 ((wrap64 (x1_1 + 1)) + 1)) + 1))]) (j := 3) hcl25 hcc25 (show 4 ≤ 9 from by decide) (x' := (⟨(⟨(rd_T95 y152 x5_1).f0.f0, (rd_T95 y152 x5_1).f0.f1⟩ : S25), (rd_T95 y152 x5_1).f1, wrap64 ((wrap64 ((wrap64 (x1_1 + 1)) + 1)) + 1), (rd_T95 y152 x5_1).f3, (⟨(rd_T95 y152 x5_1).f4.f0, (rd_T95 y152 x5_1).f4.f1⟩ : S93), (rd_T95 y152 x5_1).f5, (rd_T95 y152 x5_1).f6⟩ : S95)) (k95_mkM _ _ _ (⟨(⟨(rd_T95 y152 x5_1).f0.f0, (rd_T95 y152 x5_1).f0.f1⟩ : S25), (rd_T95 y152 x5_1).f1, wrap64 ((wrap64 ((wrap64 (x1_1 + 1)) + 1)) + 1), (rd_T95 y152 x5_1).f3, (⟨(rd_T95 y152 x5_1).f4.f0, (rd_T95 y152 x5_1).f4.f1⟩ : S93), (rd_T95 y152 x5_1).f5, (rd_T95 y152 x5_1).f6⟩ : S95) ) (fun _ hk => hk); have hx25_3 := hcc25 3 _ rfl; (try simp only [show (k95).sz = 9 from rfl, Nat.mul_one, Nat.add_zero] at hx25_3); have hf25_3 := hfr25 3; (try simp only [show (k95).sz = 9 from rfl, Nat.mul_one, Nat.add_zero] at hf25_3); clear hcl25 hcc25 hfr25 hM25) | ((with_reducible refine gate_store (t := 3) (p := 39) rfl ?_); refine store_event (t := 3) (p := 39) (v := ?vo_w26) (w1 := (w24.setCell ⟨go5, (x5_1 : Int).toNat * 9 + 3, none⟩ (.int .i64 (wrap64 ((wrap64 ((wrap64 (x1_1 + 1)) + 1)) + 1))))) ?hg ?ho ?hn ?hr ?_; (case ho => rfl); (case hg => rfl); (case hn => rfl); (case hr => first | (go_simp; done) | (go_simp; rfl)); intro w26 hw; have hg : w24.grownBy w26 (some go5) := (by rw [hw]; exact HP25.2); have hp_ : Kd.R k95 95 w26 w0.heap.size (fun k_ => (P0_ k_ ∨ w.heap.size ≤ k_)) (.slice (some ⟨go5, 0, none⟩) x0_1.length co18) y153 := (by rw [hw, Ny153.out]; exact HP25.1); clear HP25; have n0_ := Aside0.mk (hp_); have n1_ := Aside0.mk ((by rw [hw]; exact below_set (HB.out) GB5.out : Below w0.heap.size w0 w26)); have n2_ := Aside0.mk (Kept.of_grown (S := (fun k_ => P0_ k_)) hg (by repeat (first | (with_reducible first | exact HK.out | apply Kept.alloc | apply Kept.drewN | apply Kept.drew) | exact HK.out)) (fun k_ e_ => (HO_0.out.1 k_ e_))); clear HO_0; clear HB; clear HK; have HO_0 := n0_; have HB := n1_; have HK := n2_; clear n0_ n1_ n2_; clear hg hw hp_; have p9 : 0 ≤ (x5_1 : Int) := of_decide_eq_true (by first | (with_reducible assumption) | assumption); have q9 : (x5_1 : Int) < ((x0_1.length : Int) : Int) := of_decide_eq_true (by first | (with_reducible assumption) | assumption); obtain ⟨ce9, hcl9, hM9, hcc9, hfr9⟩ := Kd.R_elem HO_0.out z95 (x5_1 : Int) p9 q9; obtain rfl := k95_openM hM9; have hx9_0 : w26.cell? ⟨go5, (x5_1 : Int).toNat * 9, none⟩ = some (.int .i64 ((rd_T95 y153 x5_1).f0.f0)) := hcc9 0 _ rfl; have hx9_1 : w26.cell? ⟨go5, (x5_1 : Int).toNat * 9 + 1, none⟩ = some (.int .i64 ((rd_T95 y153 x5_1).f0.f1)) := hcc9 1 _ rfl; have hx9_2 : w26.cell? ⟨go5, (x5_1 : Int).toNat * 9 + 2, none⟩ = some (.int .i64 ((rd_T95 y153 x5_1).f1)) := hcc9 2 _ rfl; have hx9_3 : w26.cell? ⟨go5, (x5_1 : Int).toNat * 9 + 3, none⟩ = some (.int .i64 ((rd_T95 y153 x5_1).f2)) := hcc9 3 _ rfl; have hx9_4 : w26.cell? ⟨go5, (x5_1 : Int).toNat * 9 + 4, none⟩ = some (.int .i64 ((rd_T95 y153 x5_1).f3)) := hcc9 4 _ rfl; have hx9_5 : w26.cell? ⟨go5, (x5_1 : Int).toNat * 9 + 5, none⟩ = some (.string ((rd_T95 y153 x5_1).f4.f0)) := hcc9 5 _ rfl; have hx9_6 : w26.cell? ⟨go5, (x5_1 : Int).toNat * 9 + 6, none⟩ = some (.string ((rd_T95 y153 x5_1).f4.f1)) := hcc9 6 _ rfl; have hx9_7 : w26.cell? ⟨go5, (x5_1 : Int).toNat * 9 + 7, none⟩ = some (.string ((rd_T95 y153 x5_1).f5)) := hcc9 7 _ rfl; have hx9_8 : w26.cell? ⟨go5, (x5_1 : Int).toNat * 9 + 8, none⟩ = some (.string ((rd_T95 y153 x5_1).f6)) := hcc9 8 _ rfl; have hf9_0 : w26.frozen? ⟨go5, (x5_1 : Int).toNat * 9, none⟩ = false := hfr9 0; have hf9_1 : w26.frozen? ⟨go5, (x5_1 : Int).toNat * 9 + 1, none⟩ = false := hfr9 1; have hf9_2 : w26.frozen? ⟨go5, (x5_1 : Int).toNat * 9 + 2, none⟩ = false := hfr9 2; have hf9_3 : w26.frozen? ⟨go5, (x5_1 : Int).toNat * 9 + 3, none⟩ = false := hfr9 3; have hf9_4 : w26.frozen? ⟨go5, (x5_1 : Int).toNat * 9 + 4, none⟩ = false := hfr9 4; have hf9_5 : w26.frozen? ⟨go5, (x5_1 : Int).toNat * 9 + 5, none⟩ = false := hfr9 5; have hf9_6 : w26.frozen? ⟨go5, (x5_1 : Int).toNat * 9 + 6, none⟩ = false := hfr9 6; have hf9_7 : w26.frozen? ⟨go5, (x5_1 : Int).toNat * 9 + 7, none⟩ = false := hfr9 7; have hf9_8 : w26.frozen? ⟨go5, (x5_1 : Int).toNat * 9 + 8, none⟩ = false := hfr9 8; clear hcl9 hcc9 hfr9 hM9; replace p9 := eq_true p9; replace q9 := eq_true q9; have HX27 := Aside0.mk (show Kd.R k95 95 w26 w0.heap.size (fun k_ => (P0_ k_ ∨ w.heap.size ≤ k_)) (.slice (some ⟨go5, 0, none⟩) x0_1.length co18) y153 from (by (with_reducible repeat (first | apply Kd.R_alloc | apply Kd.R_drewN | apply Kd.R_drew)); exact HO_0.out)); obtain ⟨ce27, hcl27, hM27, hcc27, hfr27⟩ := Kd.R_elem HX27.out z95 (x5_1 : Int) (of_decide_eq_true (by first | (with_reducible assumption) | assumption)) (by have h_ : (x5_1 : Int) < ((x0_1.length : Int) : Int) := of_decide_eq_true (by first | (with_reducible assumption) | assumption); first | exact h_ | (have e_ := (Kd.R_reads' HO_0.out).1; omega) | simpa using h_); obtain rfl := k95_openM hM27; have HP27 := Kd.R_seg HX27.out (x5_1 : Int) (of_decide_eq_true (by first | (with_reducible assumption) | assumption)) (by have h_ : (x5_1 : Int) < ((x0_1.length : Int) : Int) := of_decide_eq_true (by first | (with_reducible assumption) | assumption); first | exact h_ | (have e_ := (Kd.R_reads' HO_0.out).1; omega) | simpa using h_) (seg := [.int .i64 (wrap64 ((wrap64 ((wrap64 ((wrap64 (x1_1 + 1)) + 1)) + 1)) + 1))]) (j := 4) hcl27 hcc27 (show 5 ≤ 9 from by decide) (x' := (⟨(⟨(rd_T95 y153 x5_1).f0.f0, (rd_T95 y153 x5_1).f0.f1⟩ : S25), (rd_T95 y153 x5_1).f1, (rd_T95 y153 x5_1).f2, wrap64 ((wrap64 ((wrap64 ((wrap64 (x1_1 + 1)) + 1)) + 1)) + 1), (⟨(rd_T95 y153 x5_1).f4.f0, (rd_T95 y153 x5_1).f4.f1⟩ : S93), (rd_T95 y153 x5_1).f5, (rd_T95 y153 x5_1).f6⟩ : S95)) (k95_mkM _ _ _ (⟨(⟨(rd_T95 y153 x5_1).f0.f0, (rd_T95 y153 x5_1).f0.f1⟩ : S25), (rd_T95 y153 x5_1).f1, (rd_T95 y153 x5_1).f2, wrap64 ((wrap64 ((wrap64 ((wrap64 (x1_1 + 1)) + 1)) + 1)) + 1), (⟨(rd_T95 y153 x5_1).f4.f0, (rd_T95 y153 x5_1).f4.f1⟩ : S93), (rd_T95 y153 x5_1).f5, (rd_T95 y153 x5_1).f6⟩ : S95) ) (fun _ hk => hk); have hx27_4 := hcc27 4 _ rfl; (try simp only [show (k95).sz = 9 from rfl, Nat.mul_one, Nat.add_zero] at hx27_4); have hf27_4 := hfr27 4; (try simp only [show (k95).sz = 9 from rfl, Nat.mul_one, Nat.add_zero] at hf27_4); clear hcl27 hcc27 hfr27 hM27) | ((with_reducible refine gate_store (t := 3) (p := 46) rfl ?_); refine store_event (t := 3) (p := 46) (v := ?vo_w28) (w1 := (w26.setCell ⟨go5, (x5_1 : Int).toNat * 9 + 4, none⟩ (.int .i64 (wrap64 ((wrap64 ((wrap64 ((wrap64 (x1_1 + 1)) + 1)) + 1)) + 1))))) ?hg ?ho ?hn ?hr ?_; (case ho => rfl); (case hg => rfl); (case hn => rfl); (case hr => first | (go_simp; done) | (go_simp; rfl)); intro w28 hw; have hg : w26.grownBy w28 (some go5) := (by rw [hw]; exact HP27.2); have hp_ : Kd.R k95 95 w28 w0.heap.size (fun k_ => (P0_ k_ ∨ w.heap.size ≤ k_)) (.slice (some ⟨go5, 0, none⟩) x0_1.length co18) y154 := (by rw [hw, Ny154.out]; exact HP27.1); clear HP27; have n0_ := Aside0.mk (hp_); have n1_ := Aside0.mk ((by rw [hw]; exact below_set (HB.out) GB5.out : Below w0.heap.size w0 w28)); have n2_ := Aside0.mk (Kept.of_grown (S := (fun k_ => P0_ k_)) hg (by repeat (first | (with_reducible first | exact HK.out | apply Kept.alloc | apply Kept.drewN | apply Kept.drew) | exact HK.out)) (fun k_ e_ => (HO_0.out.1 k_ e_))); clear HO_0; clear HB; clear HK; have HO_0 := n0_; have HB := n1_; have HK := n2_; clear n0_ n1_ n2_; clear hg hw hp_) | ((with_reducible refine gate_callee (f := 67) rfl ?_); refine goesL_ (some 52) rfl rfl Try.func67 (by kernel_rfl) rfl #[.int .i64 (wrap64 ((wrap64 ((wrap64 ((wrap64 ((wrap64 (x1_1 + 1)) + 1)) + 1)) + 1)) + 1))] rfl (by (try simp only [List.map_toArray, List.map_cons, List.map_nil]); first | done | rfl | (simp only [List.length_drop, List.length_take]; rfl)) ?_; (with_reducible refine (laws_markText.calls k1 (wrap64 ((wrap64 ((wrap64 ((wrap64 ((wrap64 (x1_1 + 1)) + 1)) + 1)) + 1)) + 1)) t155 _ A10.out).mono ?_); rintro e w29 ⟨rfl, hb⟩; refine ⟨_, rfl, ?_⟩; have n0_ := Aside0.mk (Kd.R_below (by (with_reducible repeat (first | apply Kd.R_alloc | apply Kd.R_drewN | apply Kd.R_drew)); exact HO_0.out) hb); have n1_ := Aside0.mk (Kept.below (S := (fun k_ => P0_ k_)) (by repeat (first | (with_reducible first | exact HK.out | apply Kept.alloc | apply Kept.drewN | apply Kept.drew) | exact HK.out)) hb); have n2_ := Aside0.mk (below_step (by repeat (first | (with_reducible first | exact HB.out | apply pkA | apply pkN | apply pkD) | exact HB.out)) hb); clear HO_0; clear HK; clear HB; have HO_0 := n0_; have HK := n1_; have HB := n2_; clear n0_ n1_ n2_; (try clear hb); (try clear hb2); (try clear hk); (try clear hi); have p11 : 0 ≤ (x5_1 : Int) := of_decide_eq_true (by first | (with_reducible assumption) | assumption); have q11 : (x5_1 : Int) < ((x0_1.length : Int) : Int) := of_decide_eq_true (by first | (with_reducible assumption) | assumption); obtain ⟨ce11, hcl11, hM11, hcc11, hfr11⟩ := Kd.R_elem HO_0.out z95 (x5_1 : Int) p11 q11; obtain rfl := k95_openM hM11; have hx11_0 : w29.cell? ⟨go5, (x5_1 : Int).toNat * 9, none⟩ = some (.int .i64 ((rd_T95 y154 x5_1).f0.f0)) := hcc11 0 _ rfl; have hx11_1 : w29.cell? ⟨go5, (x5_1 : Int).toNat * 9 + 1, none⟩ = some (.int .i64 ((rd_T95 y154 x5_1).f0.f1)) := hcc11 1 _ rfl; have hx11_2 : w29.cell? ⟨go5, (x5_1 : Int).toNat * 9 + 2, none⟩ = some (.int .i64 ((rd_T95 y154 x5_1).f1)) := hcc11 2 _ rfl; have hx11_3 : w29.cell? ⟨go5, (x5_1 : Int).toNat * 9 + 3, none⟩ = some (.int .i64 ((rd_T95 y154 x5_1).f2)) := hcc11 3 _ rfl; have hx11_4 : w29.cell? ⟨go5, (x5_1 : Int).toNat * 9 + 4, none⟩ = some (.int .i64 ((rd_T95 y154 x5_1).f3)) := hcc11 4 _ rfl; have hx11_5 : w29.cell? ⟨go5, (x5_1 : Int).toNat * 9 + 5, none⟩ = some (.string ((rd_T95 y154 x5_1).f4.f0)) := hcc11 5 _ rfl; have hx11_6 : w29.cell? ⟨go5, (x5_1 : Int).toNat * 9 + 6, none⟩ = some (.string ((rd_T95 y154 x5_1).f4.f1)) := hcc11 6 _ rfl; have hx11_7 : w29.cell? ⟨go5, (x5_1 : Int).toNat * 9 + 7, none⟩ = some (.string ((rd_T95 y154 x5_1).f5)) := hcc11 7 _ rfl; have hx11_8 : w29.cell? ⟨go5, (x5_1 : Int).toNat * 9 + 8, none⟩ = some (.string ((rd_T95 y154 x5_1).f6)) := hcc11 8 _ rfl; have hf11_0 : w29.frozen? ⟨go5, (x5_1 : Int).toNat * 9, none⟩ = false := hfr11 0; have hf11_1 : w29.frozen? ⟨go5, (x5_1 : Int).toNat * 9 + 1, none⟩ = false := hfr11 1; have hf11_2 : w29.frozen? ⟨go5, (x5_1 : Int).toNat * 9 + 2, none⟩ = false := hfr11 2; have hf11_3 : w29.frozen? ⟨go5, (x5_1 : Int).toNat * 9 + 3, none⟩ = false := hfr11 3; have hf11_4 : w29.frozen? ⟨go5, (x5_1 : Int).toNat * 9 + 4, none⟩ = false := hfr11 4; have hf11_5 : w29.frozen? ⟨go5, (x5_1 : Int).toNat * 9 + 5, none⟩ = false := hfr11 5; have hf11_6 : w29.frozen? ⟨go5, (x5_1 : Int).toNat * 9 + 6, none⟩ = false := hfr11 6; have hf11_7 : w29.frozen? ⟨go5, (x5_1 : Int).toNat * 9 + 7, none⟩ = false := hfr11 7; have hf11_8 : w29.frozen? ⟨go5, (x5_1 : Int).toNat * 9 + 8, none⟩ = false := hfr11 8; clear hcl11 hcc11 hfr11 hM11; replace p11 := eq_true p11; replace q11 := eq_true q11; have HX30 := Aside0.mk (show Kd.R k95 95 w29 w0.heap.size (fun k_ => (P0_ k_ ∨ w.heap.size ≤ k_)) (.slice (some ⟨go5, 0, none⟩) x0_1.length co18) y154 from (by (with_reducible repeat (first | apply Kd.R_alloc | apply Kd.R_drewN | apply Kd.R_drew)); exact HO_0.out)); obtain ⟨ce30, hcl30, hM30, hcc30, hfr30⟩ := Kd.R_elem HX30.out z95 (x5_1 : Int) (of_decide_eq_true (by first | (with_reducible assumption) | assumption)) (by have h_ : (x5_1 : Int) < ((x0_1.length : Int) : Int) := of_decide_eq_true (by first | (with_reducible assumption) | assumption); first | exact h_ | (have e_ := (Kd.R_reads' HO_0.out).1; omega) | simpa using h_); obtain rfl := k95_openM hM30; have HP30 := Kd.R_seg HX30.out (x5_1 : Int) (of_decide_eq_true (by first | (with_reducible assumption) | assumption)) (by have h_ : (x5_1 : Int) < ((x0_1.length : Int) : Int) := of_decide_eq_true (by first | (with_reducible assumption) | assumption); first | exact h_ | (have e_ := (Kd.R_reads' HO_0.out).1; omega) | simpa using h_) (seg := [.string t155]) (j := 5) hcl30 hcc30 (show 6 ≤ 9 from by decide) (x' := (⟨(⟨(rd_T95 y154 x5_1).f0.f0, (rd_T95 y154 x5_1).f0.f1⟩ : S25), (rd_T95 y154 x5_1).f1, (rd_T95 y154 x5_1).f2, (rd_T95 y154 x5_1).f3, (⟨t155, (rd_T95 y154 x5_1).f4.f1⟩ : S93), (rd_T95 y154 x5_1).f5, (rd_T95 y154 x5_1).f6⟩ : S95)) (k95_mkM _ _ _ (⟨(⟨(rd_T95 y154 x5_1).f0.f0, (rd_T95 y154 x5_1).f0.f1⟩ : S25), (rd_T95 y154 x5_1).f1, (rd_T95 y154 x5_1).f2, (rd_T95 y154 x5_1).f3, (⟨t155, (rd_T95 y154 x5_1).f4.f1⟩ : S93), (rd_T95 y154 x5_1).f5, (rd_T95 y154 x5_1).f6⟩ : S95) ) (fun _ hk => hk); have hx30_5 := hcc30 5 _ rfl; (try simp only [show (k95).sz = 9 from rfl, Nat.mul_one, Nat.add_zero] at hx30_5); have hf30_5 := hfr30 5; (try simp only [show (k95).sz = 9 from rfl, Nat.mul_one, Nat.add_zero] at hf30_5); clear hcl30 hcc30 hfr30 hM30) | ((with_reducible refine gate_store (t := 9) (p := 55) rfl ?_); refine store_event (t := 9) (p := 55) (v := ?vo_w31) (w1 := (w29.setCell ⟨go5, (x5_1 : Int).toNat * 9 + 5, none⟩ (.string t155))) ?hg ?ho ?hn ?hr ?_; (case ho => rfl); (case hg => rfl); (case hn => rfl); (case hr => first | (go_simp; done) | (go_simp; rfl)); intro w31 hw; have hg : w29.grownBy w31 (some go5) := (by rw [hw]; exact HP30.2); have hp_ : Kd.R k95 95 w31 w0.heap.size (fun k_ => (P0_ k_ ∨ w.heap.size ≤ k_)) (.slice (some ⟨go5, 0, none⟩) x0_1.length co18) y156 := (by rw [hw, Ny156.out]; exact HP30.1); clear HP30; have n0_ := Aside0.mk (hp_); have n1_ := Aside0.mk ((by rw [hw]; exact below_set (HB.out) GB5.out : Below w0.heap.size w0 w31)); have n2_ := Aside0.mk (Kept.of_grown (S := (fun k_ => P0_ k_)) hg (by repeat (first | (with_reducible first | exact HK.out | apply Kept.alloc | apply Kept.drewN | apply Kept.drew) | exact HK.out)) (fun k_ e_ => (HO_0.out.1 k_ e_))); clear HO_0; clear HB; clear HK; have HO_0 := n0_; have HB := n1_; have HK := n2_; clear n0_ n1_ n2_; clear hg hw hp_) | ((with_reducible refine gate_callee (f := 67) rfl ?_); refine goesL_ (some 61) rfl rfl Try.func67 (by kernel_rfl) rfl #[.int .i64 (wrap64 ((wrap64 ((wrap64 ((wrap64 ((wrap64 ((wrap64 (x1_1 + 1)) + 1)) + 1)) + 1)) + 1)) + 1))] rfl (by (try simp only [List.map_toArray, List.map_cons, List.map_nil]); first | done | rfl | (simp only [List.length_drop, List.length_take]; rfl)) ?_; (with_reducible refine (laws_markText.calls k1 (wrap64 ((wrap64 ((wrap64 ((wrap64 ((wrap64 ((wrap64 (x1_1 + 1)) + 1)) + 1)) + 1)) + 1)) + 1)) t157 _ A12.out).mono ?_); rintro e w32 ⟨rfl, hb⟩; refine ⟨_, rfl, ?_⟩; have n0_ := Aside0.mk (Kd.R_below (by (with_reducible repeat (first | apply Kd.R_alloc | apply Kd.R_drewN | apply Kd.R_drew)); exact HO_0.out) hb); have n1_ := Aside0.mk (Kept.below (S := (fun k_ => P0_ k_)) (by repeat (first | (with_reducible first | exact HK.out | apply Kept.alloc | apply Kept.drewN | apply Kept.drew) | exact HK.out)) hb); have n2_ := Aside0.mk (below_step (by repeat (first | (with_reducible first | exact HB.out | apply pkA | apply pkN | apply pkD) | exact HB.out)) hb); clear HO_0; clear HK; clear HB; have HO_0 := n0_; have HK := n1_; have HB := n2_; clear n0_ n1_ n2_; (try clear hb); (try clear hb2); (try clear hk); (try clear hi); have p13 : 0 ≤ (x5_1 : Int) := of_decide_eq_true (by first | (with_reducible assumption) | assumption); have q13 : (x5_1 : Int) < ((x0_1.length : Int) : Int) := of_decide_eq_true (by first | (with_reducible assumption) | assumption); obtain ⟨ce13, hcl13, hM13, hcc13, hfr13⟩ := Kd.R_elem HO_0.out z95 (x5_1 : Int) p13 q13; obtain rfl := k95_openM hM13; have hx13_0 : w32.cell? ⟨go5, (x5_1 : Int).toNat * 9, none⟩ = some (.int .i64 ((rd_T95 y156 x5_1).f0.f0)) := hcc13 0 _ rfl; have hx13_1 : w32.cell? ⟨go5, (x5_1 : Int).toNat * 9 + 1, none⟩ = some (.int .i64 ((rd_T95 y156 x5_1).f0.f1)) := hcc13 1 _ rfl; have hx13_2 : w32.cell? ⟨go5, (x5_1 : Int).toNat * 9 + 2, none⟩ = some (.int .i64 ((rd_T95 y156 x5_1).f1)) := hcc13 2 _ rfl; have hx13_3 : w32.cell? ⟨go5, (x5_1 : Int).toNat * 9 + 3, none⟩ = some (.int .i64 ((rd_T95 y156 x5_1).f2)) := hcc13 3 _ rfl; have hx13_4 : w32.cell? ⟨go5, (x5_1 : Int).toNat * 9 + 4, none⟩ = some (.int .i64 ((rd_T95 y156 x5_1).f3)) := hcc13 4 _ rfl; have hx13_5 : w32.cell? ⟨go5, (x5_1 : Int).toNat * 9 + 5, none⟩ = some (.string ((rd_T95 y156 x5_1).f4.f0)) := hcc13 5 _ rfl; have hx13_6 : w32.cell? ⟨go5, (x5_1 : Int).toNat * 9 + 6, none⟩ = some (.string ((rd_T95 y156 x5_1).f4.f1)) := hcc13 6 _ rfl; have hx13_7 : w32.cell? ⟨go5, (x5_1 : Int).toNat * 9 + 7, none⟩ = some (.string ((rd_T95 y156 x5_1).f5)) := hcc13 7 _ rfl; have hx13_8 : w32.cell? ⟨go5, (x5_1 : Int).toNat * 9 + 8, none⟩ = some (.string ((rd_T95 y156 x5_1).f6)) := hcc13 8 _ rfl; have hf13_0 : w32.frozen? ⟨go5, (x5_1 : Int).toNat * 9, none⟩ = false := hfr13 0; have hf13_1 : w32.frozen? ⟨go5, (x5_1 : Int).toNat * 9 + 1, none⟩ = false := hfr13 1; have hf13_2 : w32.frozen? ⟨go5, (x5_1 : Int).toNat * 9 + 2, none⟩ = false := hfr13 2; have hf13_3 : w32.frozen? ⟨go5, (x5_1 : Int).toNat * 9 + 3, none⟩ = false := hfr13 3; have hf13_4 : w32.frozen? ⟨go5, (x5_1 : Int).toNat * 9 + 4, none⟩ = false := hfr13 4; have hf13_5 : w32.frozen? ⟨go5, (x5_1 : Int).toNat * 9 + 5, none⟩ = false := hfr13 5; have hf13_6 : w32.frozen? ⟨go5, (x5_1 : Int).toNat * 9 + 6, none⟩ = false := hfr13 6; have hf13_7 : w32.frozen? ⟨go5, (x5_1 : Int).toNat * 9 + 7, none⟩ = false := hfr13 7; have hf13_8 : w32.frozen? ⟨go5, (x5_1 : Int).toNat * 9 + 8, none⟩ = false := hfr13 8; clear hcl13 hcc13 hfr13 hM13; replace p13 := eq_true p13; replace q13 := eq_true q13; have HX33 := Aside0.mk (show Kd.R k95 95 w32 w0.heap.size (fun k_ => (P0_ k_ ∨ w.heap.size ≤ k_)) (.slice (some ⟨go5, 0, none⟩) x0_1.length co18) y156 from (by (with_reducible repeat (first | apply Kd.R_alloc | apply Kd.R_drewN | apply Kd.R_drew)); exact HO_0.out)); obtain ⟨ce33, hcl33, hM33, hcc33, hfr33⟩ := Kd.R_elem HX33.out z95 (x5_1 : Int) (of_decide_eq_true (by first | (with_reducible assumption) | assumption)) (by have h_ : (x5_1 : Int) < ((x0_1.length : Int) : Int) := of_decide_eq_true (by first | (with_reducible assumption) | assumption); first | exact h_ | (have e_ := (Kd.R_reads' HO_0.out).1; omega) | simpa using h_); obtain rfl := k95_openM hM33; have HP33 := Kd.R_seg HX33.out (x5_1 : Int) (of_decide_eq_true (by first | (with_reducible assumption) | assumption)) (by have h_ : (x5_1 : Int) < ((x0_1.length : Int) : Int) := of_decide_eq_true (by first | (with_reducible assumption) | assumption); first | exact h_ | (have e_ := (Kd.R_reads' HO_0.out).1; omega) | simpa using h_) (seg := [.string t157]) (j := 6) hcl33 hcc33 (show 7 ≤ 9 from by decide) (x' := (⟨(⟨(rd_T95 y156 x5_1).f0.f0, (rd_T95 y156 x5_1).f0.f1⟩ : S25), (rd_T95 y156 x5_1).f1, (rd_T95 y156 x5_1).f2, (rd_T95 y156 x5_1).f3, (⟨(rd_T95 y156 x5_1).f4.f0, t157⟩ : S93), (rd_T95 y156 x5_1).f5, (rd_T95 y156 x5_1).f6⟩ : S95)) (k95_mkM _ _ _ (⟨(⟨(rd_T95 y156 x5_1).f0.f0, (rd_T95 y156 x5_1).f0.f1⟩ : S25), (rd_T95 y156 x5_1).f1, (rd_T95 y156 x5_1).f2, (rd_T95 y156 x5_1).f3, (⟨(rd_T95 y156 x5_1).f4.f0, t157⟩ : S93), (rd_T95 y156 x5_1).f5, (rd_T95 y156 x5_1).f6⟩ : S95) ) (fun _ hk => hk); have hx33_6 := hcc33 6 _ rfl; (try simp only [show (k95).sz = 9 from rfl, Nat.mul_one, Nat.add_zero] at hx33_6); have hf33_6 := hfr33 6; (try simp only [show (k95).sz = 9 from rfl, Nat.mul_one, Nat.add_zero] at hf33_6); clear hcl33 hcc33 hfr33 hM33) | ((with_reducible refine gate_store (t := 9) (p := 64) rfl ?_); refine store_event (t := 9) (p := 64) (v := ?vo_w34) (w1 := (w32.setCell ⟨go5, (x5_1 : Int).toNat * 9 + 6, none⟩ (.string t157))) ?hg ?ho ?hn ?hr ?_; (case ho => rfl); (case hg => rfl); (case hn => rfl); (case hr => first | (go_simp; done) | (go_simp; rfl)); intro w34 hw; have hg : w32.grownBy w34 (some go5) := (by rw [hw]; exact HP33.2); have hp_ : Kd.R k95 95 w34 w0.heap.size (fun k_ => (P0_ k_ ∨ w.heap.size ≤ k_)) (.slice (some ⟨go5, 0, none⟩) x0_1.length co18) y158 := (by rw [hw, Ny158.out]; exact HP33.1); clear HP33; have n0_ := Aside0.mk (hp_); have n1_ := Aside0.mk ((by rw [hw]; exact below_set (HB.out) GB5.out : Below w0.heap.size w0 w34)); have n2_ := Aside0.mk (Kept.of_grown (S := (fun k_ => P0_ k_)) hg (by repeat (first | (with_reducible first | exact HK.out | apply Kept.alloc | apply Kept.drewN | apply Kept.drew) | exact HK.out)) (fun k_ e_ => (HO_0.out.1 k_ e_))); clear HO_0; clear HB; clear HK; have HO_0 := n0_; have HB := n1_; have HK := n2_; clear n0_ n1_ n2_; clear hg hw hp_) | ((with_reducible refine gate_callee (f := 67) rfl ?_); refine goesL_ (some 70) rfl rfl Try.func67 (by kernel_rfl) rfl #[.int .i64 (wrap64 ((wrap64 ((wrap64 ((wrap64 ((wrap64 ((wrap64 ((wrap64 (x1_1 + 1)) + 1)) + 1)) + 1)) + 1)) + 1)) + 1))] rfl (by (try simp only [List.map_toArray, List.map_cons, List.map_nil]); first | done | rfl | (simp only [List.length_drop, List.length_take]; rfl)) ?_; (with_reducible refine (laws_markText.calls k1 (wrap64 ((wrap64 ((wrap64 ((wrap64 ((wrap64 ((wrap64 ((wrap64 (x1_1 + 1)) + 1)) + 1)) + 1)) + 1)) + 1)) + 1)) t159 _ A14.out).mono ?_); rintro e w35 ⟨rfl, hb⟩; refine ⟨_, rfl, ?_⟩; have n0_ := Aside0.mk (Kd.R_below (by (with_reducible repeat (first | apply Kd.R_alloc | apply Kd.R_drewN | apply Kd.R_drew)); exact HO_0.out) hb); have n1_ := Aside0.mk (Kept.below (S := (fun k_ => P0_ k_)) (by repeat (first | (with_reducible first | exact HK.out | apply Kept.alloc | apply Kept.drewN | apply Kept.drew) | exact HK.out)) hb); have n2_ := Aside0.mk (below_step (by repeat (first | (with_reducible first | exact HB.out | apply pkA | apply pkN | apply pkD) | exact HB.out)) hb); clear HO_0; clear HK; clear HB; have HO_0 := n0_; have HK := n1_; have HB := n2_; clear n0_ n1_ n2_; (try clear hb); (try clear hb2); (try clear hk); (try clear hi); have p15 : 0 ≤ (x5_1 : Int) := of_decide_eq_true (by first | (with_reducible assumption) | assumption); have q15 : (x5_1 : Int) < ((x0_1.length : Int) : Int) := of_decide_eq_true (by first | (with_reducible assumption) | assumption); obtain ⟨ce15, hcl15, hM15, hcc15, hfr15⟩ := Kd.R_elem HO_0.out z95 (x5_1 : Int) p15 q15; obtain rfl := k95_openM hM15; have hx15_0 : w35.cell? ⟨go5, (x5_1 : Int).toNat * 9, none⟩ = some (.int .i64 ((rd_T95 y158 x5_1).f0.f0)) := hcc15 0 _ rfl; have hx15_1 : w35.cell? ⟨go5, (x5_1 : Int).toNat * 9 + 1, none⟩ = some (.int .i64 ((rd_T95 y158 x5_1).f0.f1)) := hcc15 1 _ rfl; have hx15_2 : w35.cell? ⟨go5, (x5_1 : Int).toNat * 9 + 2, none⟩ = some (.int .i64 ((rd_T95 y158 x5_1).f1)) := hcc15 2 _ rfl; have hx15_3 : w35.cell? ⟨go5, (x5_1 : Int).toNat * 9 + 3, none⟩ = some (.int .i64 ((rd_T95 y158 x5_1).f2)) := hcc15 3 _ rfl; have hx15_4 : w35.cell? ⟨go5, (x5_1 : Int).toNat * 9 + 4, none⟩ = some (.int .i64 ((rd_T95 y158 x5_1).f3)) := hcc15 4 _ rfl; have hx15_5 : w35.cell? ⟨go5, (x5_1 : Int).toNat * 9 + 5, none⟩ = some (.string ((rd_T95 y158 x5_1).f4.f0)) := hcc15 5 _ rfl; have hx15_6 : w35.cell? ⟨go5, (x5_1 : Int).toNat * 9 + 6, none⟩ = some (.string ((rd_T95 y158 x5_1).f4.f1)) := hcc15 6 _ rfl; have hx15_7 : w35.cell? ⟨go5, (x5_1 : Int).toNat * 9 + 7, none⟩ = some (.string ((rd_T95 y158 x5_1).f5)) := hcc15 7 _ rfl; have hx15_8 : w35.cell? ⟨go5, (x5_1 : Int).toNat * 9 + 8, none⟩ = some (.string ((rd_T95 y158 x5_1).f6)) := hcc15 8 _ rfl; have hf15_0 : w35.frozen? ⟨go5, (x5_1 : Int).toNat * 9, none⟩ = false := hfr15 0; have hf15_1 : w35.frozen? ⟨go5, (x5_1 : Int).toNat * 9 + 1, none⟩ = false := hfr15 1; have hf15_2 : w35.frozen? ⟨go5, (x5_1 : Int).toNat * 9 + 2, none⟩ = false := hfr15 2; have hf15_3 : w35.frozen? ⟨go5, (x5_1 : Int).toNat * 9 + 3, none⟩ = false := hfr15 3; have hf15_4 : w35.frozen? ⟨go5, (x5_1 : Int).toNat * 9 + 4, none⟩ = false := hfr15 4; have hf15_5 : w35.frozen? ⟨go5, (x5_1 : Int).toNat * 9 + 5, none⟩ = false := hfr15 5; have hf15_6 : w35.frozen? ⟨go5, (x5_1 : Int).toNat * 9 + 6, none⟩ = false := hfr15 6; have hf15_7 : w35.frozen? ⟨go5, (x5_1 : Int).toNat * 9 + 7, none⟩ = false := hfr15 7; have hf15_8 : w35.frozen? ⟨go5, (x5_1 : Int).toNat * 9 + 8, none⟩ = false := hfr15 8; clear hcl15 hcc15 hfr15 hM15; replace p15 := eq_true p15; replace q15 := eq_true q15; have HX36 := Aside0.mk (show Kd.R k95 95 w35 w0.heap.size (fun k_ => (P0_ k_ ∨ w.heap.size ≤ k_)) (.slice (some ⟨go5, 0, none⟩) x0_1.length co18) y158 from (by (with_reducible repeat (first | apply Kd.R_alloc | apply Kd.R_drewN | apply Kd.R_drew)); exact HO_0.out)); obtain ⟨ce36, hcl36, hM36, hcc36, hfr36⟩ := Kd.R_elem HX36.out z95 (x5_1 : Int) (of_decide_eq_true (by first | (with_reducible assumption) | assumption)) (by have h_ : (x5_1 : Int) < ((x0_1.length : Int) : Int) := of_decide_eq_true (by first | (with_reducible assumption) | assumption); first | exact h_ | (have e_ := (Kd.R_reads' HO_0.out).1; omega) | simpa using h_); obtain rfl := k95_openM hM36; have HP36 := Kd.R_seg HX36.out (x5_1 : Int) (of_decide_eq_true (by first | (with_reducible assumption) | assumption)) (by have h_ : (x5_1 : Int) < ((x0_1.length : Int) : Int) := of_decide_eq_true (by first | (with_reducible assumption) | assumption); first | exact h_ | (have e_ := (Kd.R_reads' HO_0.out).1; omega) | simpa using h_) (seg := [.string t159]) (j := 7) hcl36 hcc36 (show 8 ≤ 9 from by decide) (x' := (⟨(⟨(rd_T95 y158 x5_1).f0.f0, (rd_T95 y158 x5_1).f0.f1⟩ : S25), (rd_T95 y158 x5_1).f1, (rd_T95 y158 x5_1).f2, (rd_T95 y158 x5_1).f3, (⟨(rd_T95 y158 x5_1).f4.f0, (rd_T95 y158 x5_1).f4.f1⟩ : S93), t159, (rd_T95 y158 x5_1).f6⟩ : S95)) (k95_mkM _ _ _ (⟨(⟨(rd_T95 y158 x5_1).f0.f0, (rd_T95 y158 x5_1).f0.f1⟩ : S25), (rd_T95 y158 x5_1).f1, (rd_T95 y158 x5_1).f2, (rd_T95 y158 x5_1).f3, (⟨(rd_T95 y158 x5_1).f4.f0, (rd_T95 y158 x5_1).f4.f1⟩ : S93), t159, (rd_T95 y158 x5_1).f6⟩ : S95) ) (fun _ hk => hk); have hx36_7 := hcc36 7 _ rfl; (try simp only [show (k95).sz = 9 from rfl, Nat.mul_one, Nat.add_zero] at hx36_7); have hf36_7 := hfr36 7; (try simp only [show (k95).sz = 9 from rfl, Nat.mul_one, Nat.add_zero] at hf36_7); clear hcl36 hcc36 hfr36 hM36) | ((with_reducible refine gate_store (t := 9) (p := 72) rfl ?_); refine store_event (t := 9) (p := 72) (v := ?vo_w37) (w1 := (w35.setCell ⟨go5, (x5_1 : Int).toNat * 9 + 7, none⟩ (.string t159))) ?hg ?ho ?hn ?hr ?_; (case ho => rfl); (case hg => rfl); (case hn => rfl); (case hr => first | (go_simp; done) | (go_simp; rfl)); intro w37 hw; have hg : w35.grownBy w37 (some go5) := (by rw [hw]; exact HP36.2); have hp_ : Kd.R k95 95 w37 w0.heap.size (fun k_ => (P0_ k_ ∨ w.heap.size ≤ k_)) (.slice (some ⟨go5, 0, none⟩) x0_1.length co18) y160 := (by rw [hw, Ny160.out]; exact HP36.1); clear HP36; have n0_ := Aside0.mk (hp_); have n1_ := Aside0.mk ((by rw [hw]; exact below_set (HB.out) GB5.out : Below w0.heap.size w0 w37)); have n2_ := Aside0.mk (Kept.of_grown (S := (fun k_ => P0_ k_)) hg (by repeat (first | (with_reducible first | exact HK.out | apply Kept.alloc | apply Kept.drewN | apply Kept.drew) | exact HK.out)) (fun k_ e_ => (HO_0.out.1 k_ e_))); clear HO_0; clear HB; clear HK; have HO_0 := n0_; have HB := n1_; have HK := n2_; clear n0_ n1_ n2_; clear hg hw hp_) | ((with_reducible refine gate_callee (f := 67) rfl ?_); refine goesL_ (some 78) rfl rfl Try.func67 (by kernel_rfl) rfl #[.int .i64 (wrap64 ((wrap64 ((wrap64 ((wrap64 ((wrap64 ((wrap64 ((wrap64 ((wrap64 (x1_1 + 1)) + 1)) + 1)) + 1)) + 1)) + 1)) + 1)) + 1))] rfl (by (try simp only [List.map_toArray, List.map_cons, List.map_nil]); first | done | rfl | (simp only [List.length_drop, List.length_take]; rfl)) ?_; (with_reducible refine (laws_markText.calls k1 (wrap64 ((wrap64 ((wrap64 ((wrap64 ((wrap64 ((wrap64 ((wrap64 ((wrap64 (x1_1 + 1)) + 1)) + 1)) + 1)) + 1)) + 1)) + 1)) + 1)) t161 _ A16.out).mono ?_); rintro e w38 ⟨rfl, hb⟩; refine ⟨_, rfl, ?_⟩; have n0_ := Aside0.mk (Kd.R_below (by (with_reducible repeat (first | apply Kd.R_alloc | apply Kd.R_drewN | apply Kd.R_drew)); exact HO_0.out) hb); have n1_ := Aside0.mk (Kept.below (S := (fun k_ => P0_ k_)) (by repeat (first | (with_reducible first | exact HK.out | apply Kept.alloc | apply Kept.drewN | apply Kept.drew) | exact HK.out)) hb); have n2_ := Aside0.mk (below_step (by repeat (first | (with_reducible first | exact HB.out | apply pkA | apply pkN | apply pkD) | exact HB.out)) hb); clear HO_0; clear HK; clear HB; have HO_0 := n0_; have HK := n1_; have HB := n2_; clear n0_ n1_ n2_; (try clear hb); (try clear hb2); (try clear hk); (try clear hi); have p17 : 0 ≤ (x5_1 : Int) := of_decide_eq_true (by first | (with_reducible assumption) | assumption); have q17 : (x5_1 : Int) < ((x0_1.length : Int) : Int) := of_decide_eq_true (by first | (with_reducible assumption) | assumption); obtain ⟨ce17, hcl17, hM17, hcc17, hfr17⟩ := Kd.R_elem HO_0.out z95 (x5_1 : Int) p17 q17; obtain rfl := k95_openM hM17; have hx17_0 : w38.cell? ⟨go5, (x5_1 : Int).toNat * 9, none⟩ = some (.int .i64 ((rd_T95 y160 x5_1).f0.f0)) := hcc17 0 _ rfl; have hx17_1 : w38.cell? ⟨go5, (x5_1 : Int).toNat * 9 + 1, none⟩ = some (.int .i64 ((rd_T95 y160 x5_1).f0.f1)) := hcc17 1 _ rfl; have hx17_2 : w38.cell? ⟨go5, (x5_1 : Int).toNat * 9 + 2, none⟩ = some (.int .i64 ((rd_T95 y160 x5_1).f1)) := hcc17 2 _ rfl; have hx17_3 : w38.cell? ⟨go5, (x5_1 : Int).toNat * 9 + 3, none⟩ = some (.int .i64 ((rd_T95 y160 x5_1).f2)) := hcc17 3 _ rfl; have hx17_4 : w38.cell? ⟨go5, (x5_1 : Int).toNat * 9 + 4, none⟩ = some (.int .i64 ((rd_T95 y160 x5_1).f3)) := hcc17 4 _ rfl; have hx17_5 : w38.cell? ⟨go5, (x5_1 : Int).toNat * 9 + 5, none⟩ = some (.string ((rd_T95 y160 x5_1).f4.f0)) := hcc17 5 _ rfl; have hx17_6 : w38.cell? ⟨go5, (x5_1 : Int).toNat * 9 + 6, none⟩ = some (.string ((rd_T95 y160 x5_1).f4.f1)) := hcc17 6 _ rfl; have hx17_7 : w38.cell? ⟨go5, (x5_1 : Int).toNat * 9 + 7, none⟩ = some (.string ((rd_T95 y160 x5_1).f5)) := hcc17 7 _ rfl; have hx17_8 : w38.cell? ⟨go5, (x5_1 : Int).toNat * 9 + 8, none⟩ = some (.string ((rd_T95 y160 x5_1).f6)) := hcc17 8 _ rfl; have hf17_0 : w38.frozen? ⟨go5, (x5_1 : Int).toNat * 9, none⟩ = false := hfr17 0; have hf17_1 : w38.frozen? ⟨go5, (x5_1 : Int).toNat * 9 + 1, none⟩ = false := hfr17 1; have hf17_2 : w38.frozen? ⟨go5, (x5_1 : Int).toNat * 9 + 2, none⟩ = false := hfr17 2; have hf17_3 : w38.frozen? ⟨go5, (x5_1 : Int).toNat * 9 + 3, none⟩ = false := hfr17 3; have hf17_4 : w38.frozen? ⟨go5, (x5_1 : Int).toNat * 9 + 4, none⟩ = false := hfr17 4; have hf17_5 : w38.frozen? ⟨go5, (x5_1 : Int).toNat * 9 + 5, none⟩ = false := hfr17 5; have hf17_6 : w38.frozen? ⟨go5, (x5_1 : Int).toNat * 9 + 6, none⟩ = false := hfr17 6; have hf17_7 : w38.frozen? ⟨go5, (x5_1 : Int).toNat * 9 + 7, none⟩ = false := hfr17 7; have hf17_8 : w38.frozen? ⟨go5, (x5_1 : Int).toNat * 9 + 8, none⟩ = false := hfr17 8; clear hcl17 hcc17 hfr17 hM17; replace p17 := eq_true p17; replace q17 := eq_true q17; have HX39 := Aside0.mk (show Kd.R k95 95 w38 w0.heap.size (fun k_ => (P0_ k_ ∨ w.heap.size ≤ k_)) (.slice (some ⟨go5, 0, none⟩) x0_1.length co18) y160 from (by (with_reducible repeat (first | apply Kd.R_alloc | apply Kd.R_drewN | apply Kd.R_drew)); exact HO_0.out)); obtain ⟨ce39, hcl39, hM39, hcc39, hfr39⟩ := Kd.R_elem HX39.out z95 (x5_1 : Int) (of_decide_eq_true (by first | (with_reducible assumption) | assumption)) (by have h_ : (x5_1 : Int) < ((x0_1.length : Int) : Int) := of_decide_eq_true (by first | (with_reducible assumption) | assumption); first | exact h_ | (have e_ := (Kd.R_reads' HO_0.out).1; omega) | simpa using h_); obtain rfl := k95_openM hM39; have HP39 := Kd.R_seg HX39.out (x5_1 : Int) (of_decide_eq_true (by first | (with_reducible assumption) | assumption)) (by have h_ : (x5_1 : Int) < ((x0_1.length : Int) : Int) := of_decide_eq_true (by first | (with_reducible assumption) | assumption); first | exact h_ | (have e_ := (Kd.R_reads' HO_0.out).1; omega) | simpa using h_) (seg := [.string t161]) (j := 8) hcl39 hcc39 (show 9 ≤ 9 from by decide) (x' := (⟨(⟨(rd_T95 y160 x5_1).f0.f0, (rd_T95 y160 x5_1).f0.f1⟩ : S25), (rd_T95 y160 x5_1).f1, (rd_T95 y160 x5_1).f2, (rd_T95 y160 x5_1).f3, (⟨(rd_T95 y160 x5_1).f4.f0, (rd_T95 y160 x5_1).f4.f1⟩ : S93), (rd_T95 y160 x5_1).f5, t161⟩ : S95)) (k95_mkM _ _ _ (⟨(⟨(rd_T95 y160 x5_1).f0.f0, (rd_T95 y160 x5_1).f0.f1⟩ : S25), (rd_T95 y160 x5_1).f1, (rd_T95 y160 x5_1).f2, (rd_T95 y160 x5_1).f3, (⟨(rd_T95 y160 x5_1).f4.f0, (rd_T95 y160 x5_1).f4.f1⟩ : S93), (rd_T95 y160 x5_1).f5, t161⟩ : S95) ) (fun _ hk => hk); have hx39_8 := hcc39 8 _ rfl; (try simp only [show (k95).sz = 9 from rfl, Nat.mul_one, Nat.add_zero] at hx39_8); have hf39_8 := hfr39 8; (try simp only [show (k95).sz = 9 from rfl, Nat.mul_one, Nat.add_zero] at hf39_8); clear hcl39 hcc39 hfr39 hM39) | ((with_reducible refine gate_store (t := 9) (p := 80) rfl ?_); refine store_event (t := 9) (p := 80) (v := ?vo_w40) (w1 := (w38.setCell ⟨go5, (x5_1 : Int).toNat * 9 + 8, none⟩ (.string t161))) ?hg ?ho ?hn ?hr ?_; (case ho => rfl); (case hg => rfl); (case hn => rfl); (case hr => first | (go_simp; done) | (go_simp; rfl)); intro w40 hw; have hg : w38.grownBy w40 (some go5) := (by rw [hw]; exact HP39.2); have hp_ : Kd.R k95 95 w40 w0.heap.size (fun k_ => (P0_ k_ ∨ w.heap.size ≤ k_)) (.slice (some ⟨go5, 0, none⟩) x0_1.length co18) y162 := (by rw [hw, Ny162.out]; exact HP39.1); clear HP39; have n0_ := Aside0.mk (hp_); have n1_ := Aside0.mk ((by rw [hw]; exact below_set (HB.out) GB5.out : Below w0.heap.size w0 w40)); have n2_ := Aside0.mk (Kept.of_grown (S := (fun k_ => P0_ k_)) hg (by repeat (first | (with_reducible first | exact HK.out | apply Kept.alloc | apply Kept.drewN | apply Kept.drew) | exact HK.out)) (fun k_ e_ => (HO_0.out.1 k_ e_))); clear HO_0; clear HB; clear HK; have HO_0 := n0_; have HB := n1_; have HK := n2_; clear n0_ n1_ n2_; clear hg hw hp_))
     go_roundg k1
     case measure => have := HK1.out; omega
     case rel => exact ⟨(y162), (wrap64 ((wrap64 ((wrap64 ((wrap64 ((wrap64 ((wrap64 ((wrap64 ((wrap64 ((wrap64 (x1_1 + 1)) + 1)) + 1)) + 1)) + 1)) + 1)) + 1)) + 1)) + 1)), (wrap64 (x5_1 + 1)), (by first | rfl | (simp; done) | (simp [pw_ne_nil, pw_eq_nil]; done) | (simp [*]; done)), (by first | rfl | (simp; done) | (simp [pw_ne_nil, pw_eq_nil]; done) | (simp [*]; done)), H', ⟨by have := HK1.out; omega⟩, ⟨by (with_reducible repeat (first | apply Kd.R_alloc | apply Kd.R_drewN | apply Kd.R_drew)); exact HO_0.out⟩, ⟨by repeat (first | (with_reducible first | exact HK.out | apply Kept.alloc | apply Kept.drewN | apply Kept.drew) | exact HK.out)⟩, ⟨by repeat (first | (with_reducible first | exact HB.out | apply pkA | apply pkN | apply pkD) | exact HB.out)⟩⟩
    ·rw [if_neg c4] at H
     exact absurd H (by simp)
   ·rw [if_neg c3] at H
    have c3b0 : decide (x5_1 < (x0_1.length : Int)) = false := decide_eq_false c3
    clear c3
    simp only [Option.some.injEq, Prod.mk.injEq] at H
    obtain ⟨rfl, rfl⟩ := H
    obtain ⟨Ao41, co41, eo41⟩ := Kd.R_slice HO_0.out
    subst eo41
    go_wp2
    go_ret
    exact ⟨by first | rfl | (simp [errW_none, errW_some] <;> rfl) | (simp [*, errW_none, errW_some] <;> rfl), by (with_reducible repeat (first | apply Kd.R_alloc | apply Kd.R_drewN | apply Kd.R_drew)); exact HO_0.out, by repeat (first | (with_reducible first | exact HB.out | apply pkA | apply pkN | apply pkD) | exact HB.out), by repeat (first | (with_reducible first | exact HK.out | apply Kept.alloc | apply Kept.drewN | apply Kept.drew) | exact HK.out)⟩

/-! ### laws_markStampS: function 29 -/
def laws_markStampS.l0 : Nat → List (S25) → Int → Int → Option (Int × (List (S25)))
 | 0, _, _, _ => none
 | k + 1, x0, x1, x5 => if x5 < (x0.length : Int) then (if 0 ≤ x5 then ((some (x0.set (x5 : Int).toNat (⟨x1, (rd_T25 x0 x5).f1⟩ : S25) : List (S25))).bind fun y163 => (laws_markStampS.l0 k (y163.set (x5 : Int).toNat (⟨(rd_T25 y163 x5).f0, wrap64 (x1 + 1)⟩ : S25)) (wrap64 ((wrap64 (x1 + 1)) + 1)) (wrap64 (x5 + 1)))) else (none)) else (some (x1, x0))
def laws_markStampS.f (k : Nat) (l0 : List (S25)) (a1 : Int) : Option (Int × (List (S25))) := laws_markStampS.l0 k l0 a1 0
theorem laws_markStampS.mono_l : ∀ k, (∀ y0 y1 y2, LeO (laws_markStampS.l0 k y0 y1 y2) (laws_markStampS.l0 (k + 1) y0 y1 y2))
 | 0 => fun _ _ _ r h => by simp [laws_markStampS.l0] at h
 | k + 1 => by
  have ih0 := laws_markStampS.mono_l k
  ·intro y0 y1 y2
   unfold laws_markStampS.l0
   repeat' first
   | (with_reducible exact ih0 _ _ _)
   | (with_reducible exact LeO.refl _)
   | (with_reducible exact LeO.none _)
   | (with_reducible refine LeO.ite ?_ ?_)
   | (with_reducible refine LeO.bind ?_ (fun _ => ?_))
   | exact ih0 _ _ _
   | exact LeO.none _
   | refine LeO.ite ?_ ?_
   | refine LeO.bind ?_ (fun _ => ?_)
theorem laws_markStampS.mono : ∀ a0 a1 k, LeO (laws_markStampS.f k a0 a1) (laws_markStampS.f (k + 1) a0 a1) := by
 intro a0 a1 k
 have ih0 := laws_markStampS.mono_l k
 unfold laws_markStampS.f
 repeat' first
   | (with_reducible exact ih0 _ _ _)
   | (with_reducible exact LeO.refl _)
   | (with_reducible exact LeO.none _)
   | (with_reducible refine LeO.ite ?_ ?_)
   | (with_reducible refine LeO.bind ?_ (fun _ => ?_))
   | exact ih0 _ _ _
   | exact LeO.none _
   | refine LeO.ite ?_ ?_
   | refine LeO.bind ?_ (fun _ => ?_)
set_option maxHeartbeats 8000000 in
set_option maxRecDepth 100000 in
theorem laws_markStampS.calls (k : Nat) (P0_ : Nat → Prop) (u9000_ : Value) (l0 : List (S25)) (a1 : Int) (r1 : Int) (r2 : List (S25)) (w0 w : World) (hB : Below w0.heap.size w0 w) (ho0 : Kd.R k25 25 w w0.heap.size P0_ u9000_ l0) (h : laws_markStampS.f k l0 a1 = some (r1, r2)) :
  Calls Try.prog 29 #[u9000_, .int .i64 a1] w fun e w' => e = .returned (.int .i64 r1) ∧ Kd.R k25 25 w' w0.heap.size (fun k_ => (P0_ k_ ∨ w.heap.size ≤ k_)) u9000_ r2 ∧ Below w0.heap.size w0 w' ∧ Kept w w' (fun k_ => P0_ k_) := by
 have HO0 := Aside0.mk (show Kd.R k25 25 w w0.heap.size (fun k_ => (P0_ k_ ∨ w.heap.size ≤ k_)) u9000_ l0 from Kd.R_mono ho0 (fun k_ hk => (.inl hk)))
 have HK := Aside0.mk (Kept.refl w (fun k_ => P0_ k_))
 have HW0 := Aside0.mk hB.size
 have HB := Aside0.mk hB
 clear hB
 have H : (laws_markStampS.l0 k l0 a1 0) = some (r1, r2) := h
 clear h
 have H' := Aside0.mk H
 clear H
 go_enter Try.func29, Try.ntmps29
 go_wp2
 go_loopg [1, 5] k (fun kq v1 v5 w' => ∃ (x0_1 : List (S25)) (x1_1 : Int) (x5_1 : Int), v1 = .int .i64 x1_1 ∧ v5 = .int .i64 x5_1 ∧ Aside0 (laws_markStampS.l0 kq x0_1 x1_1 x5_1 = some (r1, r2)) ∧ Aside0 (kq ≤ k) ∧ Aside0 (Kd.R k25 25 w' w0.heap.size (fun k_ => (P0_ k_ ∨ w.heap.size ≤ k_)) u9000_ x0_1) ∧ Aside0 (Kept w w' (fun k_ => P0_ k_)) ∧ Aside0 (Below w0.heap.size w0 w'))
 case atStart => exact ⟨(l0), (a1), (0), (by first | rfl | (simp; done) | (simp [pw_ne_nil, pw_eq_nil]; done) | (simp [*]; done)), (by first | rfl | (simp; done) | (simp [pw_ne_nil, pw_eq_nil]; done) | (simp [*]; done)), H', ⟨Nat.le_refl _⟩, ⟨by (with_reducible repeat (first | apply Kd.R_alloc | apply Kd.R_drewN | apply Kd.R_drew)); exact HO0.out⟩, ⟨by repeat (first | (with_reducible first | exact HK.out | apply Kept.alloc | apply Kept.drewN | apply Kept.drew) | exact HK.out)⟩, ⟨by repeat (first | (with_reducible first | exact HB.out | apply pkA | apply pkN | apply pkD) | exact HB.out)⟩⟩
 case round =>
  clear H'
  try clear c2; try clear p2
  obtain ⟨x0_1, x1_1, x5_1, rfl, rfl, HA, HK1, HO_0, HK, HB⟩ := hrel
  cases gk with
  | zero => exact absurd HA.out (by simp [laws_markStampS.l0])
  | succ k1 =>
   have H := HA.out
   clear HA
   simp only [laws_markStampS.l0] at H
   by_cases c3 : x5_1 < (x0_1.length : Int)
   ·rw [if_pos c3] at H
    have c3b0 : decide (x5_1 < (x0_1.length : Int)) = true := decide_eq_true c3
    clear c3
    by_cases c4 : 0 ≤ x5_1
    ·rw [if_pos c4] at H
     have c4b0 : decide (0 ≤ x5_1) = true := decide_eq_true c4
     clear c4
     obtain ⟨y163, hy163⟩ : ∃ y_ : List (S25), y_ = (x0_1.set (x5_1 : Int).toNat (⟨x1_1, (rd_T25 x0_1 x5_1).f1⟩ : S25)) := ⟨_, rfl⟩
     replace H : (laws_markStampS.l0 k1 (y163.set (x5_1 : Int).toNat (⟨(rd_T25 y163 x5_1).f0, wrap64 (x1_1 + 1)⟩ : S25)) (wrap64 ((wrap64 (x1_1 + 1)) + 1)) (wrap64 (x5_1 + 1))) = some (r1, r2) := by first | (rw [hy163]; with_reducible exact H) | (have H2_ := (Option.bind_some _ _).symm.trans H; rw [hy163]; with_reducible exact H2_) | (have H2_ := (Option.bind_some _ _).symm.trans H; with_reducible exact H2_) | with_reducible exact H | (rw [hy163]; exact H) | exact H
     have Ny163 := Aside0.mk hy163
     clear hy163
     obtain ⟨y164, hy164⟩ : ∃ y_ : List (S25), y_ = (y163.set (x5_1 : Int).toNat (⟨(rd_T25 y163 x5_1).f0, wrap64 (x1_1 + 1)⟩ : S25)) := ⟨_, rfl⟩
     replace H : (laws_markStampS.l0 k1 y164 (wrap64 ((wrap64 (x1_1 + 1)) + 1)) (wrap64 (x5_1 + 1))) = some (r1, r2) := by first | (rw [hy164]; with_reducible exact H) | (have H2_ := (Option.bind_some _ _).symm.trans H; rw [hy164]; with_reducible exact H2_) | (have H2_ := (Option.bind_some _ _).symm.trans H; with_reducible exact H2_) | with_reducible exact H | (rw [hy164]; exact H) | exact H
     have Ny164 := Aside0.mk hy164
     clear hy164
     have H' := Aside0.mk H
     clear H
     obtain ⟨Ao7, co7, eo7⟩ := Kd.R_slice HO_0.out
     subst eo7
     have p5 : 0 ≤ (x5_1 : Int) := of_decide_eq_true (by first | (with_reducible assumption) | assumption)
     have q5 : (x5_1 : Int) < ((x0_1.length : Int) : Int) := of_decide_eq_true (by first | (with_reducible assumption) | assumption)
     obtain ⟨go5, co5, eo5, gb5, gl5, cl5, HG5⟩ := Kd.R_form HO_0.out (by omega)
     (first | cases eo5 | (injection eo5 with ea_ en_ ec_; (first | subst ea_ | (injection ea_ with ea_; subst ea_)); subst ec_; clear en_))
     have GB5 := Aside0.mk gb5
     have GG5 := Aside0.mk HG5
     clear gb5 gl5 HG5
     have HMgo5 := Aside0.mk (show (P0_ go5 ∨ w.heap.size ≤ go5) from (HO_0.out.1 _ rfl))
     obtain ⟨ce5, hcl5, hM5, hcc5, hfr5⟩ := Kd.R_elem HO_0.out z25 (x5_1 : Int) p5 q5
     obtain rfl := k25_openM hM5
     have hx5_0 : wr.cell? ⟨go5, (x5_1 : Int).toNat * 2, none⟩ = some (.int .i64 ((rd_T25 x0_1 x5_1).f0)) := hcc5 0 _ rfl
     have hx5_1 : wr.cell? ⟨go5, (x5_1 : Int).toNat * 2 + 1, none⟩ = some (.int .i64 ((rd_T25 x0_1 x5_1).f1)) := hcc5 1 _ rfl
     have hf5_0 : wr.frozen? ⟨go5, (x5_1 : Int).toNat * 2, none⟩ = false := hfr5 0
     have hf5_1 : wr.frozen? ⟨go5, (x5_1 : Int).toNat * 2 + 1, none⟩ = false := hfr5 1
     clear hcl5 hcc5 hfr5 hM5
     replace p5 := eq_true p5
     replace q5 := eq_true q5
     have HX8 := Aside0.mk (show Kd.R k25 25 wr w0.heap.size (fun k_ => (P0_ k_ ∨ w.heap.size ≤ k_)) (.slice (some ⟨go5, 0, none⟩) x0_1.length co7) x0_1 from (by (with_reducible repeat (first | apply Kd.R_alloc | apply Kd.R_drewN | apply Kd.R_drew)); exact HO_0.out))
     obtain ⟨ce8, hcl8, hM8, hcc8, hfr8⟩ := Kd.R_elem HX8.out z25 (x5_1 : Int) (of_decide_eq_true (by first | (with_reducible assumption) | assumption)) (by have h_ : (x5_1 : Int) < ((x0_1.length : Int) : Int) := of_decide_eq_true (by first | (with_reducible assumption) | assumption); first | exact h_ | (have e_ := (Kd.R_reads' HO_0.out).1; omega) | simpa using h_)
     obtain rfl := k25_openM hM8
     have HP8 := Kd.R_seg HX8.out (x5_1 : Int) (of_decide_eq_true (by first | (with_reducible assumption) | assumption)) (by have h_ : (x5_1 : Int) < ((x0_1.length : Int) : Int) := of_decide_eq_true (by first | (with_reducible assumption) | assumption); first | exact h_ | (have e_ := (Kd.R_reads' HO_0.out).1; omega) | simpa using h_) (seg := [.int .i64 x1_1]) (j := 0) hcl8 hcc8 (show 1 ≤ 2 from by decide) (x' := (⟨x1_1, (rd_T25 x0_1 x5_1).f1⟩ : S25)) (k25_mkM _ _ _ (⟨x1_1, (rd_T25 x0_1 x5_1).f1⟩ : S25) ) (fun _ hk => hk)
     have hx8_0 := hcc8 0 _ rfl
     (try simp only [show (k25).sz = 2 from rfl, Nat.mul_one, Nat.add_zero] at hx8_0)
     have hf8_0 := hfr8 0
     (try simp only [show (k25).sz = 2 from rfl, Nat.mul_one, Nat.add_zero] at hf8_0)
     clear hcl8 hcc8 hfr8 hM8
     go_wp2_with (first | ((with_reducible refine gate_store (t := 3) (p := 16) rfl ?_); refine store_event (t := 3) (p := 16) (v := ?vo_w9) (w1 := (wr.setCell ⟨go5, (x5_1 : Int).toNat * 2, none⟩ (.int .i64 x1_1))) ?hg ?ho ?hn ?hr ?_; (case ho => rfl); (case hg => rfl); (case hn => rfl); (case hr => first | (go_simp; done) | (go_simp; rfl)); intro w9 hw; have hg : wr.grownBy w9 (some go5) := (by rw [hw]; exact HP8.2); have hp_ : Kd.R k25 25 w9 w0.heap.size (fun k_ => (P0_ k_ ∨ w.heap.size ≤ k_)) (.slice (some ⟨go5, 0, none⟩) x0_1.length co7) y163 := (by rw [hw, Ny163.out]; exact HP8.1); clear HP8; have n0_ := Aside0.mk (hp_); have n1_ := Aside0.mk ((by rw [hw]; exact below_set (HB.out) GB5.out : Below w0.heap.size w0 w9)); have n2_ := Aside0.mk (Kept.of_grown (S := (fun k_ => P0_ k_)) hg (by repeat (first | (with_reducible first | exact HK.out | apply Kept.alloc | apply Kept.drewN | apply Kept.drew) | exact HK.out)) (fun k_ e_ => (HO_0.out.1 k_ e_))); clear HO_0; clear HB; clear HK; have HO_0 := n0_; have HB := n1_; have HK := n2_; clear n0_ n1_ n2_; clear hg hw hp_; have p6 : 0 ≤ (x5_1 : Int) := of_decide_eq_true (by first | (with_reducible assumption) | assumption); have q6 : (x5_1 : Int) < ((x0_1.length : Int) : Int) := of_decide_eq_true (by first | (with_reducible assumption) | assumption); obtain ⟨ce6, hcl6, hM6, hcc6, hfr6⟩ := Kd.R_elem HO_0.out z25 (x5_1 : Int) p6 q6; obtain rfl := k25_openM hM6; have hx6_0 : w9.cell? ⟨go5, (x5_1 : Int).toNat * 2, none⟩ = some (.int .i64 ((rd_T25 y163 x5_1).f0)) := hcc6 0 _ rfl; have hx6_1 : w9.cell? ⟨go5, (x5_1 : Int).toNat * 2 + 1, none⟩ = some (.int .i64 ((rd_T25 y163 x5_1).f1)) := hcc6 1 _ rfl; have hf6_0 : w9.frozen? ⟨go5, (x5_1 : Int).toNat * 2, none⟩ = false := hfr6 0; have hf6_1 : w9.frozen? ⟨go5, (x5_1 : Int).toNat * 2 + 1, none⟩ = false := hfr6 1; clear hcl6 hcc6 hfr6 hM6; replace p6 := eq_true p6; replace q6 := eq_true q6; have HX10 := Aside0.mk (show Kd.R k25 25 w9 w0.heap.size (fun k_ => (P0_ k_ ∨ w.heap.size ≤ k_)) (.slice (some ⟨go5, 0, none⟩) x0_1.length co7) y163 from (by (with_reducible repeat (first | apply Kd.R_alloc | apply Kd.R_drewN | apply Kd.R_drew)); exact HO_0.out)); obtain ⟨ce10, hcl10, hM10, hcc10, hfr10⟩ := Kd.R_elem HX10.out z25 (x5_1 : Int) (of_decide_eq_true (by first | (with_reducible assumption) | assumption)) (by have h_ : (x5_1 : Int) < ((x0_1.length : Int) : Int) := of_decide_eq_true (by first | (with_reducible assumption) | assumption); first | exact h_ | (have e_ := (Kd.R_reads' HO_0.out).1; omega) | simpa using h_); obtain rfl := k25_openM hM10; have HP10 := Kd.R_seg HX10.out (x5_1 : Int) (of_decide_eq_true (by first | (with_reducible assumption) | assumption)) (by have h_ : (x5_1 : Int) < ((x0_1.length : Int) : Int) := of_decide_eq_true (by first | (with_reducible assumption) | assumption); first | exact h_ | (have e_ := (Kd.R_reads' HO_0.out).1; omega) | simpa using h_) (seg := [.int .i64 (wrap64 (x1_1 + 1))]) (j := 1) hcl10 hcc10 (show 2 ≤ 2 from by decide) (x' := (⟨(rd_T25 y163 x5_1).f0, wrap64 (x1_1 + 1)⟩ : S25)) (k25_mkM _ _ _ (⟨(rd_T25 y163 x5_1).f0, wrap64 (x1_1 + 1)⟩ : S25) ) (fun _ hk => hk); have hx10_1 := hcc10 1 _ rfl; (try simp only [show (k25).sz = 2 from rfl, Nat.mul_one, Nat.add_zero] at hx10_1); have hf10_1 := hfr10 1; (try simp only [show (k25).sz = 2 from rfl, Nat.mul_one, Nat.add_zero] at hf10_1); clear hcl10 hcc10 hfr10 hM10) | ((with_reducible refine gate_store (t := 3) (p := 23) rfl ?_); refine store_event (t := 3) (p := 23) (v := ?vo_w11) (w1 := (w9.setCell ⟨go5, (x5_1 : Int).toNat * 2 + 1, none⟩ (.int .i64 (wrap64 (x1_1 + 1))))) ?hg ?ho ?hn ?hr ?_; (case ho => rfl); (case hg => rfl); (case hn => rfl); (case hr => first | (go_simp; done) | (go_simp; rfl)); intro w11 hw; have hg : w9.grownBy w11 (some go5) := (by rw [hw]; exact HP10.2); have hp_ : Kd.R k25 25 w11 w0.heap.size (fun k_ => (P0_ k_ ∨ w.heap.size ≤ k_)) (.slice (some ⟨go5, 0, none⟩) x0_1.length co7) y164 := (by rw [hw, Ny164.out]; exact HP10.1); clear HP10; have n0_ := Aside0.mk (hp_); have n1_ := Aside0.mk ((by rw [hw]; exact below_set (HB.out) GB5.out : Below w0.heap.size w0 w11)); have n2_ := Aside0.mk (Kept.of_grown (S := (fun k_ => P0_ k_)) hg (by repeat (first | (with_reducible first | exact HK.out | apply Kept.alloc | apply Kept.drewN | apply Kept.drew) | exact HK.out)) (fun k_ e_ => (HO_0.out.1 k_ e_))); clear HO_0; clear HB; clear HK; have HO_0 := n0_; have HB := n1_; have HK := n2_; clear n0_ n1_ n2_; clear hg hw hp_))
     go_roundg k1
     case measure => have := HK1.out; omega
     case rel => exact ⟨(y164), (wrap64 ((wrap64 (x1_1 + 1)) + 1)), (wrap64 (x5_1 + 1)), (by first | rfl | (simp; done) | (simp [pw_ne_nil, pw_eq_nil]; done) | (simp [*]; done)), (by first | rfl | (simp; done) | (simp [pw_ne_nil, pw_eq_nil]; done) | (simp [*]; done)), H', ⟨by have := HK1.out; omega⟩, ⟨by (with_reducible repeat (first | apply Kd.R_alloc | apply Kd.R_drewN | apply Kd.R_drew)); exact HO_0.out⟩, ⟨by repeat (first | (with_reducible first | exact HK.out | apply Kept.alloc | apply Kept.drewN | apply Kept.drew) | exact HK.out)⟩, ⟨by repeat (first | (with_reducible first | exact HB.out | apply pkA | apply pkN | apply pkD) | exact HB.out)⟩⟩
    ·rw [if_neg c4] at H
     exact absurd H (by simp)
   ·rw [if_neg c3] at H
    have c3b0 : decide (x5_1 < (x0_1.length : Int)) = false := decide_eq_false c3
    clear c3
    simp only [Option.some.injEq, Prod.mk.injEq] at H
    obtain ⟨rfl, rfl⟩ := H
    obtain ⟨Ao12, co12, eo12⟩ := Kd.R_slice HO_0.out
    subst eo12
    go_wp2
    go_ret
    exact ⟨by first | rfl | (simp [errW_none, errW_some] <;> rfl) | (simp [*, errW_none, errW_some] <;> rfl), by (with_reducible repeat (first | apply Kd.R_alloc | apply Kd.R_drewN | apply Kd.R_drew)); exact HO_0.out, by repeat (first | (with_reducible first | exact HB.out | apply pkA | apply pkN | apply pkD) | exact HB.out), by repeat (first | (with_reducible first | exact HK.out | apply Kept.alloc | apply Kept.drewN | apply Kept.drew) | exact HK.out)⟩

/-! ### laws_szStampS: function 31 -/
def laws_szStampS.f (l0 : List (S87)) (a1 : Int) : Option (Int) := if (wrap64 (a1 - (l0.length : Int))) < 0 then (some (-1)) else (some (wrap64 (a1 - (l0.length : Int))))
set_option maxHeartbeats 8000000 in
set_option maxRecDepth 100000 in
theorem laws_szStampS.calls (A0 : Option Addr) (c0 : Nat) (l0 : List (S87)) (a1 : Int) (r : Int) (w : World) (hr0 : Kd.C k87 w A0 l0.length l0) (hc0 : l0.length ≤ c0) (h : laws_szStampS.f l0 a1 = some r) :
  Calls Try.prog 31 #[.slice A0 l0.length c0, .int .i64 a1] w fun e w' => e = .returned (.int .i64 r) ∧ Drawn0 w w' := by
 have HR0 := Aside0.mk hr0
 have HC0 := Aside0.mk hc0
 clear hr0 hc0
 have H : (if (wrap64 (a1 - (l0.length : Int))) < 0 then (some (-1)) else (some (wrap64 (a1 - (l0.length : Int))))) = some r := h
 clear h
 by_cases c3 : (wrap64 (a1 - (l0.length : Int))) < 0
 ·rw [if_pos c3] at H
  have c3b0 : decide ((wrap64 (a1 - (l0.length : Int))) < 0) = true := decide_eq_true c3
  clear c3
  obtain rfl := Option.some.inj H
  go_enter Try.func31, Try.ntmps31
  go_wp2
  go_ret
  exact ⟨by first | rfl | (simp; done) | (simp [*]; done), by repeat (first | exact Drawn0.refl _ | apply Drawn0.step)⟩
 ·rw [if_neg c3] at H
  have c3b0 : decide ((wrap64 (a1 - (l0.length : Int))) < 0) = false := decide_eq_false c3
  clear c3
  obtain rfl := Option.some.inj H
  go_enter Try.func31, Try.ntmps31
  go_wp2
  go_ret
  exact ⟨by first | rfl | (simp; done) | (simp [*]; done), by repeat (first | exact Drawn0.refl _ | apply Drawn0.step)⟩

/-! ### spec_l1Digit: function 97 -/
def spec_l1Digit.f (a0 : Int) : Option (Bool) := if a0 ≥ 48 then (some (decide (a0 ≤ 57))) else (some false)
set_option maxHeartbeats 8000000 in
set_option maxRecDepth 100000 in
theorem spec_l1Digit.calls (a0 : Int) (r : Bool) (w : World) (h : spec_l1Digit.f a0 = some r) :
  Calls Try.prog 97 #[.int .u8 a0] w fun e w' => e = .returned (.bool r) ∧ Drawn0 w w' := by
 have H : (if a0 ≥ 48 then (some (decide (a0 ≤ 57))) else (some false)) = some r := h
 clear h
 by_cases c2 : a0 ≥ 48
 ·rw [if_pos c2] at H
  have c2b0 : decide (48 ≤ a0) = true := decide_eq_true c2
  clear c2
  obtain rfl := Option.some.inj H
  go_enter Try.func97, Try.ntmps97
  go_wp2
  go_ret
  exact ⟨by first | rfl | (simp; done) | (simp [*]; done), by repeat (first | exact Drawn0.refl _ | apply Drawn0.step)⟩
 ·rw [if_neg c2] at H
  have c2b0 : decide (48 ≤ a0) = false := decide_eq_false c2
  clear c2
  obtain rfl := Option.some.inj H
  go_enter Try.func97, Try.ntmps97
  go_wp2
  go_ret
  exact ⟨by first | rfl | (simp; done) | (simp [*]; done), by repeat (first | exact Drawn0.refl _ | apply Drawn0.step)⟩

/-! ### spec_l1Letter: function 98 -/
def spec_l1Letter.f (a0 : Int) : Option (Bool) := if a0 ≥ 97 then (if a0 ≤ 122 then (some true) else (if a0 ≥ 65 then (some (decide (a0 ≤ 90))) else (some false))) else (if a0 ≥ 65 then (some (decide (a0 ≤ 90))) else (some false))
set_option maxHeartbeats 8000000 in
set_option maxRecDepth 100000 in
theorem spec_l1Letter.calls (a0 : Int) (r : Bool) (w : World) (h : spec_l1Letter.f a0 = some r) :
  Calls Try.prog 98 #[.int .u8 a0] w fun e w' => e = .returned (.bool r) ∧ Drawn0 w w' := by
 have H : (if a0 ≥ 97 then (if a0 ≤ 122 then (some true) else (if a0 ≥ 65 then (some (decide (a0 ≤ 90))) else (some false))) else (if a0 ≥ 65 then (some (decide (a0 ≤ 90))) else (some false))) = some r := h
 clear h
 by_cases c2 : a0 ≥ 97
 ·rw [if_pos c2] at H
  have c2b0 : decide (97 ≤ a0) = true := decide_eq_true c2
  clear c2
  by_cases c3 : a0 ≤ 122
  ·rw [if_pos c3] at H
   have c3b0 : decide (a0 ≤ 122) = true := decide_eq_true c3
   clear c3
   obtain rfl := Option.some.inj H
   go_enter Try.func98, Try.ntmps98
   go_wp2
   go_ret
   exact ⟨by first | rfl | (simp; done) | (simp [*]; done), by repeat (first | exact Drawn0.refl _ | apply Drawn0.step)⟩
  ·rw [if_neg c3] at H
   have c3b0 : decide (a0 ≤ 122) = false := decide_eq_false c3
   clear c3
   by_cases c4 : a0 ≥ 65
   ·rw [if_pos c4] at H
    have c4b0 : decide (65 ≤ a0) = true := decide_eq_true c4
    clear c4
    obtain rfl := Option.some.inj H
    go_enter Try.func98, Try.ntmps98
    go_wp2
    go_ret
    exact ⟨by first | rfl | (simp; done) | (simp [*]; done), by repeat (first | exact Drawn0.refl _ | apply Drawn0.step)⟩
   ·rw [if_neg c4] at H
    have c4b0 : decide (65 ≤ a0) = false := decide_eq_false c4
    clear c4
    obtain rfl := Option.some.inj H
    go_enter Try.func98, Try.ntmps98
    go_wp2
    go_ret
    exact ⟨by first | rfl | (simp; done) | (simp [*]; done), by repeat (first | exact Drawn0.refl _ | apply Drawn0.step)⟩
 ·rw [if_neg c2] at H
  have c2b0 : decide (97 ≤ a0) = false := decide_eq_false c2
  clear c2
  by_cases c5 : a0 ≥ 65
  ·rw [if_pos c5] at H
   have c5b0 : decide (65 ≤ a0) = true := decide_eq_true c5
   clear c5
   obtain rfl := Option.some.inj H
   go_enter Try.func98, Try.ntmps98
   go_wp2
   go_ret
   exact ⟨by first | rfl | (simp; done) | (simp [*]; done), by repeat (first | exact Drawn0.refl _ | apply Drawn0.step)⟩
  ·rw [if_neg c5] at H
   have c5b0 : decide (65 ≤ a0) = false := decide_eq_false c5
   clear c5
   obtain rfl := Option.some.inj H
   go_enter Try.func98, Try.ntmps98
   go_wp2
   go_ret
   exact ⟨by first | rfl | (simp; done) | (simp [*]; done), by repeat (first | exact Drawn0.refl _ | apply Drawn0.step)⟩

/-! ### spec_GoodName: function 52 -/
mutual
def spec_GoodName.j0 : Nat → ByteArray → Bool → Option (Bool)
 | 0, _, _ => none
 | k + 1, x0, x16 => if x16 = true then (some false) else (spec_GoodName.l0 k x0 0)
def spec_GoodName.l0 : Nat → ByteArray → Int → Option (Bool)
 | 0, _, _ => none
 | k + 1, x0, x3 => if x3 < (x0.size : Int) then (if 0 ≤ x3 then ((spec_l1Letter.f (bt x0 x3)).bind fun t166 => (if t166 = true then (spec_GoodName.l0 k x0 (wrap64 (x3 + 1))) else ((spec_l1Digit.f (bt x0 x3)).bind fun t167 => (if t167 = true then (spec_GoodName.l0 k x0 (wrap64 (x3 + 1))) else (if (bt x0 x3) = 95 then (spec_GoodName.l0 k x0 (wrap64 (x3 + 1))) else (some false)))))) else (none)) else (some true)
end
def spec_GoodName.f (k : Nat) (a0 : ByteArray) : Option (Bool) := if (a0.size : Int) < 1 then (spec_GoodName.j0 k a0 true) else (if (a0.size : Int) > 30 then (spec_GoodName.j0 k a0 true) else (if 0 < (a0.size : Int) then ((spec_l1Digit.f (bt a0 0)).bind fun t165 => (spec_GoodName.j0 k a0 t165)) else (none)))
theorem spec_GoodName.mono_l : ∀ k, (∀ y0 y1, LeO (spec_GoodName.j0 k y0 y1) (spec_GoodName.j0 (k + 1) y0 y1)) ∧ (∀ y0 y1, LeO (spec_GoodName.l0 k y0 y1) (spec_GoodName.l0 (k + 1) y0 y1))
 | 0 => ⟨fun _ _ r h => by simp [spec_GoodName.j0] at h, fun _ _ r h => by simp [spec_GoodName.l0] at h⟩
 | k + 1 => by
  obtain ⟨ih0, ih1⟩ := spec_GoodName.mono_l k
  refine ⟨?_, ?_⟩
  ·intro y0 y1
   unfold spec_GoodName.j0
   repeat' first
   | (with_reducible exact ih0 _ _)
   | (with_reducible exact ih1 _ _)
   | (with_reducible exact LeO.refl _)
   | (with_reducible exact LeO.none _)
   | (with_reducible refine LeO.ite ?_ ?_)
   | (with_reducible refine LeO.bind ?_ (fun _ => ?_))
   | exact ih0 _ _
   | exact ih1 _ _
   | exact LeO.none _
   | refine LeO.ite ?_ ?_
   | refine LeO.bind ?_ (fun _ => ?_)
  ·intro y0 y1
   unfold spec_GoodName.l0
   repeat' first
   | (with_reducible exact ih0 _ _)
   | (with_reducible exact ih1 _ _)
   | (with_reducible exact LeO.refl _)
   | (with_reducible exact LeO.none _)
   | (with_reducible refine LeO.ite ?_ ?_)
   | (with_reducible refine LeO.bind ?_ (fun _ => ?_))
   | exact ih0 _ _
   | exact ih1 _ _
   | exact LeO.none _
   | refine LeO.ite ?_ ?_
   | refine LeO.bind ?_ (fun _ => ?_)
theorem spec_GoodName.mono : ∀ a0 k, LeO (spec_GoodName.f k a0) (spec_GoodName.f (k + 1) a0) := by
 intro a0 k
 obtain ⟨ih0, ih1⟩ := spec_GoodName.mono_l k
 unfold spec_GoodName.f
 repeat' first
   | (with_reducible exact ih0 _ _)
   | (with_reducible exact ih1 _ _)
   | (with_reducible exact LeO.refl _)
   | (with_reducible exact LeO.none _)
   | (with_reducible refine LeO.ite ?_ ?_)
   | (with_reducible refine LeO.bind ?_ (fun _ => ?_))
   | exact ih0 _ _
   | exact ih1 _ _
   | exact LeO.none _
   | refine LeO.ite ?_ ?_
   | refine LeO.bind ?_ (fun _ => ?_)
set_option maxHeartbeats 8000000 in
set_option maxRecDepth 100000 in
theorem spec_GoodName.calls (k : Nat) (a0 : ByteArray) (r : Bool) (w : World) (h : spec_GoodName.f k a0 = some r) :
  Calls Try.prog 52 #[.string a0] w fun e w' => e = .returned (.bool r) ∧ Drawn0 w w' := by
 have H : (if (a0.size : Int) < 1 then (spec_GoodName.j0 k a0 true) else (if (a0.size : Int) > 30 then (spec_GoodName.j0 k a0 true) else (if 0 < (a0.size : Int) then ((spec_l1Digit.f (bt a0 0)).bind fun t165 => (spec_GoodName.j0 k a0 t165)) else (none)))) = some r := h
 clear h
 have HC2 := Aside0.mk H
 clear H
 go_enter Try.func52, Try.ntmps52
 go_upto_region 1 with (fail)
 go_cut [16] (fun v16 wc => ∃ (kq : Nat) (x16_1 : Bool), v16 = .bool x16_1 ∧ Aside0 (spec_GoodName.j0 kq a0 x16_1 = some r) ∧ Aside0 (kq ≤ k) ∧ Drawn0 w wc)
 case first =>
  have H := HC2.out
  clear HC2
  by_cases c3 : (a0.size : Int) < 1
  ·rw [if_pos c3] at H
   have c3b0 : decide ((a0.size : Int) < 1) = true := decide_eq_true c3
   have c3b1 : decide (a0.size < 1) = true := decide_eq_true (by omega)
   clear c3
   (first | rw [c3b0] | (simp only [i64_w, i32_w]; rw [c3b0]) | skip)
   have H' := Aside0.mk H
   clear H
   go_wp2
   go_meet
   case rel => exact ⟨_, (true), (by first | rfl | (simp; done) | (simp [pw_ne_nil, pw_eq_nil]; done) | (simp [*]; done)), H', ⟨by first | omega | exact Nat.le_refl _⟩, by repeat (first | exact Drawn0.refl _ | apply Drawn0.step)⟩
  ·rw [if_neg c3] at H
   have c3b0 : decide ((a0.size : Int) < 1) = false := decide_eq_false c3
   have c3b1 : decide (a0.size < 1) = false := decide_eq_false (by omega)
   clear c3
   (first | rw [c3b0] | (simp only [i64_w, i32_w]; rw [c3b0]) | skip)
   by_cases c4 : (a0.size : Int) > 30
   ·rw [if_pos c4] at H
    have c4b0 : decide (30 < (a0.size : Int)) = true := decide_eq_true c4
    have c4b1 : decide (30 < a0.size) = true := decide_eq_true (by omega)
    clear c4
    have H' := Aside0.mk H
    clear H
    go_wp2
    go_meet
    case rel => exact ⟨_, (true), (by first | rfl | (simp; done) | (simp [pw_ne_nil, pw_eq_nil]; done) | (simp [*]; done)), H', ⟨by first | omega | exact Nat.le_refl _⟩, by repeat (first | exact Drawn0.refl _ | apply Drawn0.step)⟩
   ·rw [if_neg c4] at H
    have c4b0 : decide (30 < (a0.size : Int)) = false := decide_eq_false c4
    have c4b1 : decide (30 < a0.size) = false := decide_eq_false (by omega)
    clear c4
    by_cases c5 : 0 < (a0.size : Int)
    ·rw [if_pos c5] at H
     have c5b0 : decide (0 < (a0.size : Int)) = true := decide_eq_true c5
     have c5b1 : decide (0 < a0.size) = true := decide_eq_true (by omega)
     clear c5
     replace H := Option.bind_eq_some_iff.mp H
     obtain ⟨t165, A70, H⟩ := H
     try dsimp only at H
     have A7 := Aside0.mk A70
     clear A70
     have H' := Aside0.mk H
     clear H
     have p6 : 0 ≤ (0 : Int) := (by omega)
     have q6 : 0 < a0.size := (by have : (0 : Int) < (a0.size : Int) := of_decide_eq_true (by first | (with_reducible assumption) | assumption); omega)
     have hx6 : ∀ h : 0 < a0.size, ((a0[0]'h).toNat : Int) = bt a0 0 := bt_at a0 0
     clear p6
     have qi6 : (0 < (a0.size : Int)) = True := eq_true (of_decide_eq_true (by first | (with_reducible assumption) | assumption))
     replace q6 := eq_true q6
     go_wp2_with (first | (go_at_call 97; (with_reducible refine (spec_l1Digit.calls (bt a0 0) t165 _ A7.out).mono ?_); rintro e w' ⟨rfl, ⟨nd, rfl⟩⟩))
     go_meet
     case rel => exact ⟨_, (t165), (by first | rfl | (simp; done) | (simp [pw_ne_nil, pw_eq_nil]; done) | (simp [*]; done)), H', ⟨by first | omega | exact Nat.le_refl _⟩, by repeat (first | exact Drawn0.refl _ | apply Drawn0.step)⟩
    ·rw [if_neg c5] at H
     exact absurd H (by simp)
 case rest =>
  clear HC2
  try clear p2; try clear c3; try clear c3b0; try clear c3b1; try clear c4; try clear c4b0; try clear c4b1; try clear c5; try clear c5b0; try clear c5b1; try clear p6; try clear q6; try clear hx6; try clear qi6; try clear p6; try clear q6
  obtain ⟨kq, x16_1, rfl, HA, HJ1, ⟨mc1, rfl⟩⟩ := hcut
  cases kq with
  | zero => exact absurd HA.out (by simp [spec_GoodName.j0])
  | succ kj1 =>
   have H := HA.out
   clear HA
   simp only [spec_GoodName.j0] at H
   by_cases c8 : x16_1 = true
   ·subst c8
    rw [if_pos rfl] at H
    obtain rfl := Option.some.inj H
    go_wp2
    go_ret
    exact ⟨by first | rfl | (simp; done) | (simp [*]; done), by repeat (first | exact Drawn0.refl _ | apply Drawn0.step)⟩
   ·replace c8 := Bool.eq_false_iff.mpr c8
    subst c8
    rw [if_neg (show ¬ (false = true) by decide)] at H
    have H' := Aside0.mk H
    clear H
    go_wp2
    go_loopg [3] kj1 (fun kq v3 w' => ∃ (x3_2 : Int), v3 = .int .i64 x3_2 ∧ Aside0 (spec_GoodName.l0 kq a0 x3_2 = some r) ∧ Aside0 (kq ≤ kj1) ∧ Drawn0 w w')
    case atStart => exact ⟨(0), (by first | rfl | (simp; done) | (simp [pw_ne_nil, pw_eq_nil]; done) | (simp [*]; done)), H', ⟨Nat.le_refl _⟩, by repeat (first | exact Drawn0.refl _ | apply Drawn0.step)⟩
    case round =>
     clear H'
     try clear c1; try clear p2; try clear c3; try clear c3b0; try clear c3b1; try clear c4; try clear c4b0; try clear c4b1; try clear c5; try clear c5b0; try clear c5b1; try clear p6; try clear q6; try clear hx6; try clear qi6; try clear c8; try clear p2; try clear p6; try clear q6
     obtain ⟨x3_2, rfl, HA, HK2, ⟨m2, rfl⟩⟩ := hrel
     cases gk with
     | zero => exact absurd HA.out (by simp [spec_GoodName.l0])
     | succ k2 =>
      have H := HA.out
      clear HA
      simp only [spec_GoodName.l0] at H
      by_cases c9 : x3_2 < (a0.size : Int)
      ·rw [if_pos c9] at H
       have c9b0 : decide (x3_2 < (a0.size : Int)) = true := decide_eq_true c9
       clear c9
       by_cases c10 : 0 ≤ x3_2
       ·rw [if_pos c10] at H
        have c10b0 : decide (0 ≤ x3_2) = true := decide_eq_true c10
        clear c10
        replace H := Option.bind_eq_some_iff.mp H
        obtain ⟨t166, A120, H⟩ := H
        try dsimp only at H
        have A12 := Aside0.mk A120
        clear A120
        by_cases c13 : t166 = true
        ·subst c13
         rw [if_pos rfl] at H
         have H' := Aside0.mk H
         clear H
         have p11 : 0 ≤ (x3_2 : Int) := of_decide_eq_true (by first | (with_reducible assumption) | assumption)
         have q11 : x3_2 < (a0.size : Int) := of_decide_eq_true (by first | (with_reducible assumption) | assumption)
         have hx11 := bt_at a0 x3_2
         replace p11 := eq_true p11
         replace q11 := eq_true q11
         go_wp2_with (first | ((with_reducible refine gate_callee (f := 98) rfl ?_); refine goesL_ (some 26) rfl rfl Try.func98 (by kernel_rfl) rfl #[.int .u8 (bt a0 x3_2)] rfl (by (try simp only [List.map_toArray, List.map_cons, List.map_nil]); first | done | rfl | (simp only [List.length_drop, List.length_take]; rfl)) ?_; (with_reducible refine (spec_l1Letter.calls (bt a0 x3_2) true _ A12.out).mono ?_); rintro e w' ⟨rfl, ⟨nd, rfl⟩⟩; refine ⟨_, rfl, ?_⟩))
         go_roundg k2
         case measure => have := HJ1.out; have := HK2.out; omega
         case rel => exact ⟨(wrap64 (x3_2 + 1)), (by first | rfl | (simp; done) | (simp [pw_ne_nil, pw_eq_nil]; done) | (simp [*]; done)), H', ⟨by have := HJ1.out; have := HK2.out; omega⟩, by repeat (first | exact Drawn0.refl _ | apply Drawn0.step)⟩
        ·replace c13 := Bool.eq_false_iff.mpr c13
         subst c13
         rw [if_neg (show ¬ (false = true) by decide)] at H
         replace H := Option.bind_eq_some_iff.mp H
         obtain ⟨t167, A150, H⟩ := H
         try dsimp only at H
         have A15 := Aside0.mk A150
         clear A150
         by_cases c16 : t167 = true
         ·subst c16
          rw [if_pos rfl] at H
          have H' := Aside0.mk H
          clear H
          have p11 : 0 ≤ (x3_2 : Int) := of_decide_eq_true (by first | (with_reducible assumption) | assumption)
          have q11 : x3_2 < (a0.size : Int) := of_decide_eq_true (by first | (with_reducible assumption) | assumption)
          have hx11 := bt_at a0 x3_2
          replace p11 := eq_true p11
          replace q11 := eq_true q11
          go_wp2_with (first | ((with_reducible refine gate_callee (f := 98) rfl ?_); refine goesL_ (some 26) rfl rfl Try.func98 (by kernel_rfl) rfl #[.int .u8 (bt a0 x3_2)] rfl (by (try simp only [List.map_toArray, List.map_cons, List.map_nil]); first | done | rfl | (simp only [List.length_drop, List.length_take]; rfl)) ?_; (with_reducible refine (spec_l1Letter.calls (bt a0 x3_2) false _ A12.out).mono ?_); rintro e w' ⟨rfl, ⟨nd, rfl⟩⟩; refine ⟨_, rfl, ?_⟩; have p14 : 0 ≤ (x3_2 : Int) := of_decide_eq_true (by first | (with_reducible assumption) | assumption); have q14 : x3_2 < (a0.size : Int) := of_decide_eq_true (by first | (with_reducible assumption) | assumption); have hx14 := bt_at a0 x3_2; replace p14 := eq_true p14; replace q14 := eq_true q14) | (go_at_call 97; (with_reducible refine (spec_l1Digit.calls (bt a0 x3_2) true _ A15.out).mono ?_); rintro e w' ⟨rfl, ⟨nd, rfl⟩⟩))
          go_roundg k2
          case measure => have := HJ1.out; have := HK2.out; omega
          case rel => exact ⟨(wrap64 (x3_2 + 1)), (by first | rfl | (simp; done) | (simp [pw_ne_nil, pw_eq_nil]; done) | (simp [*]; done)), H', ⟨by have := HJ1.out; have := HK2.out; omega⟩, by repeat (first | exact Drawn0.refl _ | apply Drawn0.step)⟩
         ·replace c16 := Bool.eq_false_iff.mpr c16
          subst c16
          rw [if_neg (show ¬ (false = true) by decide)] at H
          by_cases c18 : (bt a0 x3_2) = 95
          ·rw [if_pos c18] at H
           have c18b0 : ((bt a0 x3_2) == 95) = true := beq_iff_eq.mpr c18
           have c18b1 : ((bt a0 x3_2) != 95) = false := bne_eq_false_iff_eq.mpr c18
           clear c18
           have H' := Aside0.mk H
           clear H
           have p11 : 0 ≤ (x3_2 : Int) := of_decide_eq_true (by first | (with_reducible assumption) | assumption)
           have q11 : x3_2 < (a0.size : Int) := of_decide_eq_true (by first | (with_reducible assumption) | assumption)
           have hx11 := bt_at a0 x3_2
           replace p11 := eq_true p11
           replace q11 := eq_true q11
           go_wp2_with (first | ((with_reducible refine gate_callee (f := 98) rfl ?_); refine goesL_ (some 26) rfl rfl Try.func98 (by kernel_rfl) rfl #[.int .u8 (bt a0 x3_2)] rfl (by (try simp only [List.map_toArray, List.map_cons, List.map_nil]); first | done | rfl | (simp only [List.length_drop, List.length_take]; rfl)) ?_; (with_reducible refine (spec_l1Letter.calls (bt a0 x3_2) false _ A12.out).mono ?_); rintro e w' ⟨rfl, ⟨nd, rfl⟩⟩; refine ⟨_, rfl, ?_⟩; have p14 : 0 ≤ (x3_2 : Int) := of_decide_eq_true (by first | (with_reducible assumption) | assumption); have q14 : x3_2 < (a0.size : Int) := of_decide_eq_true (by first | (with_reducible assumption) | assumption); have hx14 := bt_at a0 x3_2; replace p14 := eq_true p14; replace q14 := eq_true q14) | (go_at_call 97; (with_reducible refine (spec_l1Digit.calls (bt a0 x3_2) false _ A15.out).mono ?_); rintro e w' ⟨rfl, ⟨nd, rfl⟩⟩; have p17 : 0 ≤ (x3_2 : Int) := of_decide_eq_true (by first | (with_reducible assumption) | assumption); have q17 : x3_2 < (a0.size : Int) := of_decide_eq_true (by first | (with_reducible assumption) | assumption); have hx17 := bt_at a0 x3_2; replace p17 := eq_true p17; replace q17 := eq_true q17))
           go_roundg k2
           case measure => have := HJ1.out; have := HK2.out; omega
           case rel => exact ⟨(wrap64 (x3_2 + 1)), (by first | rfl | (simp; done) | (simp [pw_ne_nil, pw_eq_nil]; done) | (simp [*]; done)), H', ⟨by have := HJ1.out; have := HK2.out; omega⟩, by repeat (first | exact Drawn0.refl _ | apply Drawn0.step)⟩
          ·rw [if_neg c18] at H
           have c18b0 : ((bt a0 x3_2) == 95) = false := beq_eq_false_iff_ne.mpr c18
           have c18b1 : ((bt a0 x3_2) != 95) = true := bne_iff_ne.mpr c18
           obtain rfl := Option.some.inj H
           have p11 : 0 ≤ (x3_2 : Int) := of_decide_eq_true (by first | (with_reducible assumption) | assumption)
           have q11 : x3_2 < (a0.size : Int) := of_decide_eq_true (by first | (with_reducible assumption) | assumption)
           have hx11 := bt_at a0 x3_2
           replace p11 := eq_true p11
           replace q11 := eq_true q11
           go_wp2_with (first | ((with_reducible refine gate_callee (f := 98) rfl ?_); refine goesL_ (some 26) rfl rfl Try.func98 (by kernel_rfl) rfl #[.int .u8 (bt a0 x3_2)] rfl (by (try simp only [List.map_toArray, List.map_cons, List.map_nil]); first | done | rfl | (simp only [List.length_drop, List.length_take]; rfl)) ?_; (with_reducible refine (spec_l1Letter.calls (bt a0 x3_2) false _ A12.out).mono ?_); rintro e w' ⟨rfl, ⟨nd, rfl⟩⟩; refine ⟨_, rfl, ?_⟩; have p14 : 0 ≤ (x3_2 : Int) := of_decide_eq_true (by first | (with_reducible assumption) | assumption); have q14 : x3_2 < (a0.size : Int) := of_decide_eq_true (by first | (with_reducible assumption) | assumption); have hx14 := bt_at a0 x3_2; replace p14 := eq_true p14; replace q14 := eq_true q14) | (go_at_call 97; (with_reducible refine (spec_l1Digit.calls (bt a0 x3_2) false _ A15.out).mono ?_); rintro e w' ⟨rfl, ⟨nd, rfl⟩⟩; have p17 : 0 ≤ (x3_2 : Int) := of_decide_eq_true (by first | (with_reducible assumption) | assumption); have q17 : x3_2 < (a0.size : Int) := of_decide_eq_true (by first | (with_reducible assumption) | assumption); have hx17 := bt_at a0 x3_2; replace p17 := eq_true p17; replace q17 := eq_true q17))
           go_ret
           exact ⟨by first | rfl | (simp; done) | (simp [*]; done), by repeat (first | exact Drawn0.refl _ | apply Drawn0.step)⟩
       ·rw [if_neg c10] at H
        exact absurd H (by simp)
      ·rw [if_neg c9] at H
       have c9b0 : decide (x3_2 < (a0.size : Int)) = false := decide_eq_false c9
       clear c9
       obtain rfl := Option.some.inj H
       go_wp2
       go_ret
       exact ⟨by first | rfl | (simp; done) | (simp [*]; done), by repeat (first | exact Drawn0.refl _ | apply Drawn0.step)⟩

end Go.Proofs.Ytcgiegkcmofhhab.PFnExactMissing
