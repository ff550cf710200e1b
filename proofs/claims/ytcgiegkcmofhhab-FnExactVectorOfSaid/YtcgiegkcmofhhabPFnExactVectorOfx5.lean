-- Written for this claim by a program of this session, which goes by the kit's print and takes contracts proved by hand.
import Derived.Test.YtcgiegkcmofhhabPFnExactVectorOfx0
import Derived.Test.YtcgiegkcmofhhabPFnExactVectorOfx1
import Derived.Test.YtcgiegkcmofhhabPFnExactVectorOfx3
import Derived.Test.YtcgiegkcmofhhabPFnExactVectorOfx4
namespace Go.Proofs.Ytcgiegkcmofhhab.PFnExactVectorOf
open Go.RowKit Go.Proofs.YtcgiegkcmofhhabW.PrintWords Go.Proofs.YtcgiegkcmofhhabW.PrintLast Go.Proofs.YtcgiegkcmofhhabW.PrintMore
attribute [local go_sem] max2_int min2_int max_two min_two max_three min_three max_four min_four   -- for this text's walks alone
set_option linter.unusedVariables false
set_option linter.unusedSimpArgs false

attribute [local go_sem high] eqA93
/-! ### spec_GoodChange: function 92 -/
mutual
def spec_GoodChange.j0 : Nat → Bool → Int → Int → Int → Int → Int → ByteArray → ByteArray → ByteArray → ByteArray → Option (Bool)
 | 0, _, _, _, _, _, _, _, _, _, _ => none
 | k + 1, x36, x148000, x148001, x148002, x148003, x148004, x148005, x148006, x148007, x148008 => if x36 = true then (some false) else (if x148004 = 0 then (spec_GoodChange.j1 k (x148005.toList == ([] : List UInt8) && (x148006.toList == ([] : List UInt8))) x148000 x148001 x148002 x148003 x148004 x148005 x148006 x148007 x148008) else (spec_GoodChange.j1 k false x148000 x148001 x148002 x148003 x148004 x148005 x148006 x148007 x148008))
def spec_GoodChange.j1 : Nat → Bool → Int → Int → Int → Int → Int → ByteArray → ByteArray → ByteArray → ByteArray → Option (Bool)
 | 0, _, _, _, _, _, _, _, _, _, _ => none
 | k + 1, x3, x148000, x148001, x148002, x148003, x148004, x148005, x148006, x148007, x148008 => if x148007.toList = ([] : List UInt8) then (spec_GoodChange.j2 k x3 (x148008.toList == ([] : List UInt8)) x148000 x148001 x148002 x148003 x148004 x148005 x148006 x148007 x148008) else (spec_GoodChange.j2 k x3 false x148000 x148001 x148002 x148003 x148004 x148005 x148006 x148007 x148008)
def spec_GoodChange.j2 : Nat → Bool → Bool → Int → Int → Int → Int → Int → ByteArray → ByteArray → ByteArray → ByteArray → Option (Bool)
 | 0, _, _, _, _, _, _, _, _, _, _, _ => none
 | k + 1, x3, x4, x148000, x148001, x148002, x148003, x148004, x148005, x148006, x148007, x148008 => if x148002 = 1 then (if x4 = true then (if x148004 ≥ 0 then (if x148004 ≤ 1000 then ((spec_GoodName.f k x148005).bind fun t148 => (if t148 = true then (if (x148006.size : Int) ≥ 1 then (if (x148006.size : Int) ≤ 50 then ((spec_l1Printed.f k x148006).bind fun t149 => (if t149 = true then ((spec_l4Tilde.f k x148006).bind fun t150 => (some (!t150))) else (some false))) else (some false)) else (some false)) else (some false))) else (some false)) else (some false)) else (some false)) else (if x148002 = 2 then (spec_GoodChange.j3 k x3 x4 x148002 (x148002 == 2) x148000 x148001 x148002 x148003 x148004 x148005 x148006 x148007 x148008) else (spec_GoodChange.j3 k x3 x4 x148002 (x148002 == 3) x148000 x148001 x148002 x148003 x148004 x148005 x148006 x148007 x148008))
def spec_GoodChange.j3 : Nat → Bool → Bool → Int → Bool → Int → Int → Int → Int → Int → ByteArray → ByteArray → ByteArray → ByteArray → Option (Bool)
 | 0, _, _, _, _, _, _, _, _, _, _, _, _, _ => none
 | k + 1, x3, x4, x55, x102, x148000, x148001, x148002, x148003, x148004, x148005, x148006, x148007, x148008 => if x102 = true then (if x3 = true then ((spec_GoodName.f k x148007).bind fun t151 => (if t151 = true then (if (x148008.size : Int) ≥ 1 then (if (x148008.size : Int) ≤ 200 then ((spec_l1Printed.f k x148008).bind fun t152 => (some t152)) else (some false)) else (some false)) else (some false))) else (some false)) else (if x55 = 4 then (if x3 = true then (some x4) else (some false)) else (some false))
end
def spec_GoodChange.f (k : Nat) (a0_0 : Int) (a0_1 : Int) (a0_2 : Int) (a0_3 : Int) (a0_4 : Int) (a0_5 : ByteArray) (a0_6 : ByteArray) (a0_7 : ByteArray) (a0_8 : ByteArray) : Option (Bool) := if a0_0 < 1 then (spec_GoodChange.j0 k true a0_0 a0_1 a0_2 a0_3 a0_4 a0_5 a0_6 a0_7 a0_8) else (if a0_0 > 1000000000 then (spec_GoodChange.j0 k true a0_0 a0_1 a0_2 a0_3 a0_4 a0_5 a0_6 a0_7 a0_8) else (if a0_1 < 0 then (spec_GoodChange.j0 k true a0_0 a0_1 a0_2 a0_3 a0_4 a0_5 a0_6 a0_7 a0_8) else (if a0_1 > 99 then (spec_GoodChange.j0 k true a0_0 a0_1 a0_2 a0_3 a0_4 a0_5 a0_6 a0_7 a0_8) else (if a0_3 < 1 then (spec_GoodChange.j0 k true a0_0 a0_1 a0_2 a0_3 a0_4 a0_5 a0_6 a0_7 a0_8) else (spec_GoodChange.j0 k (decide (a0_3 > 1000)) a0_0 a0_1 a0_2 a0_3 a0_4 a0_5 a0_6 a0_7 a0_8)))))
theorem spec_GoodChange.mono_l : ∀ k, (∀ y0 y1 y2 y3 y4 y5 y6 y7 y8 y9, LeO (spec_GoodChange.j0 k y0 y1 y2 y3 y4 y5 y6 y7 y8 y9) (spec_GoodChange.j0 (k + 1) y0 y1 y2 y3 y4 y5 y6 y7 y8 y9)) ∧ (∀ y0 y1 y2 y3 y4 y5 y6 y7 y8 y9, LeO (spec_GoodChange.j1 k y0 y1 y2 y3 y4 y5 y6 y7 y8 y9) (spec_GoodChange.j1 (k + 1) y0 y1 y2 y3 y4 y5 y6 y7 y8 y9)) ∧ (∀ y0 y1 y2 y3 y4 y5 y6 y7 y8 y9 y10, LeO (spec_GoodChange.j2 k y0 y1 y2 y3 y4 y5 y6 y7 y8 y9 y10) (spec_GoodChange.j2 (k + 1) y0 y1 y2 y3 y4 y5 y6 y7 y8 y9 y10)) ∧ (∀ y0 y1 y2 y3 y4 y5 y6 y7 y8 y9 y10 y11 y12, LeO (spec_GoodChange.j3 k y0 y1 y2 y3 y4 y5 y6 y7 y8 y9 y10 y11 y12) (spec_GoodChange.j3 (k + 1) y0 y1 y2 y3 y4 y5 y6 y7 y8 y9 y10 y11 y12))
 | 0 => ⟨fun _ _ _ _ _ _ _ _ _ _ r h => by simp [spec_GoodChange.j0] at h, fun _ _ _ _ _ _ _ _ _ _ r h => by simp [spec_GoodChange.j1] at h, fun _ _ _ _ _ _ _ _ _ _ _ r h => by simp [spec_GoodChange.j2] at h, fun _ _ _ _ _ _ _ _ _ _ _ _ _ r h => by simp [spec_GoodChange.j3] at h⟩
 | k + 1 => by
  obtain ⟨ih0, ih1, ih2, ih3⟩ := spec_GoodChange.mono_l k
  refine ⟨?_, ?_, ?_, ?_⟩
  ·intro y0 y1 y2 y3 y4 y5 y6 y7 y8 y9
   unfold spec_GoodChange.j0
   repeat' first
   | (with_reducible exact ih0 _ _ _ _ _ _ _ _ _ _)
   | (with_reducible exact ih1 _ _ _ _ _ _ _ _ _ _)
   | (with_reducible exact ih2 _ _ _ _ _ _ _ _ _ _ _)
   | (with_reducible exact ih3 _ _ _ _ _ _ _ _ _ _ _ _ _)
   | (with_reducible exact spec_GoodName.mono _ _)
   | (with_reducible exact spec_l1Printed.mono _ _)
   | (with_reducible exact spec_l4Tilde.mono _ _)
   | (with_reducible exact LeO.refl _)
   | (with_reducible exact LeO.none _)
   | (with_reducible refine LeO.ite ?_ ?_)
   | (with_reducible refine LeO.bind ?_ (fun _ => ?_))
   | exact ih0 _ _ _ _ _ _ _ _ _ _
   | exact ih1 _ _ _ _ _ _ _ _ _ _
   | exact ih2 _ _ _ _ _ _ _ _ _ _ _
   | exact ih3 _ _ _ _ _ _ _ _ _ _ _ _ _
   | exact spec_GoodName.mono _ _
   | exact spec_l1Printed.mono _ _
   | exact spec_l4Tilde.mono _ _
   | exact LeO.none _
   | refine LeO.ite ?_ ?_
   | refine LeO.bind ?_ (fun _ => ?_)
  ·intro y0 y1 y2 y3 y4 y5 y6 y7 y8 y9
   unfold spec_GoodChange.j1
   repeat' first
   | (with_reducible exact ih0 _ _ _ _ _ _ _ _ _ _)
   | (with_reducible exact ih1 _ _ _ _ _ _ _ _ _ _)
   | (with_reducible exact ih2 _ _ _ _ _ _ _ _ _ _ _)
   | (with_reducible exact ih3 _ _ _ _ _ _ _ _ _ _ _ _ _)
   | (with_reducible exact spec_GoodName.mono _ _)
   | (with_reducible exact spec_l1Printed.mono _ _)
   | (with_reducible exact spec_l4Tilde.mono _ _)
   | (with_reducible exact LeO.refl _)
   | (with_reducible exact LeO.none _)
   | (with_reducible refine LeO.ite ?_ ?_)
   | (with_reducible refine LeO.bind ?_ (fun _ => ?_))
   | exact ih0 _ _ _ _ _ _ _ _ _ _
   | exact ih1 _ _ _ _ _ _ _ _ _ _
   | exact ih2 _ _ _ _ _ _ _ _ _ _ _
   | exact ih3 _ _ _ _ _ _ _ _ _ _ _ _ _
   | exact spec_GoodName.mono _ _
   | exact spec_l1Printed.mono _ _
   | exact spec_l4Tilde.mono _ _
   | exact LeO.none _
   | refine LeO.ite ?_ ?_
   | refine LeO.bind ?_ (fun _ => ?_)
  ·intro y0 y1 y2 y3 y4 y5 y6 y7 y8 y9 y10
   unfold spec_GoodChange.j2
   repeat' first
   | (with_reducible exact ih0 _ _ _ _ _ _ _ _ _ _)
   | (with_reducible exact ih1 _ _ _ _ _ _ _ _ _ _)
   | (with_reducible exact ih2 _ _ _ _ _ _ _ _ _ _ _)
   | (with_reducible exact ih3 _ _ _ _ _ _ _ _ _ _ _ _ _)
   | (with_reducible exact spec_GoodName.mono _ _)
   | (with_reducible exact spec_l1Printed.mono _ _)
   | (with_reducible exact spec_l4Tilde.mono _ _)
   | (with_reducible exact LeO.refl _)
   | (with_reducible exact LeO.none _)
   | (with_reducible refine LeO.ite ?_ ?_)
   | (with_reducible refine LeO.bind ?_ (fun _ => ?_))
   | exact ih0 _ _ _ _ _ _ _ _ _ _
   | exact ih1 _ _ _ _ _ _ _ _ _ _
   | exact ih2 _ _ _ _ _ _ _ _ _ _ _
   | exact ih3 _ _ _ _ _ _ _ _ _ _ _ _ _
   | exact spec_GoodName.mono _ _
   | exact spec_l1Printed.mono _ _
   | exact spec_l4Tilde.mono _ _
   | exact LeO.none _
   | refine LeO.ite ?_ ?_
   | refine LeO.bind ?_ (fun _ => ?_)
  ·intro y0 y1 y2 y3 y4 y5 y6 y7 y8 y9 y10 y11 y12
   unfold spec_GoodChange.j3
   repeat' first
   | (with_reducible exact ih0 _ _ _ _ _ _ _ _ _ _)
   | (with_reducible exact ih1 _ _ _ _ _ _ _ _ _ _)
   | (with_reducible exact ih2 _ _ _ _ _ _ _ _ _ _ _)
   | (with_reducible exact ih3 _ _ _ _ _ _ _ _ _ _ _ _ _)
   | (with_reducible exact spec_GoodName.mono _ _)
   | (with_reducible exact spec_l1Printed.mono _ _)
   | (with_reducible exact spec_l4Tilde.mono _ _)
   | (with_reducible exact LeO.refl _)
   | (with_reducible exact LeO.none _)
   | (with_reducible refine LeO.ite ?_ ?_)
   | (with_reducible refine LeO.bind ?_ (fun _ => ?_))
   | exact ih0 _ _ _ _ _ _ _ _ _ _
   | exact ih1 _ _ _ _ _ _ _ _ _ _
   | exact ih2 _ _ _ _ _ _ _ _ _ _ _
   | exact ih3 _ _ _ _ _ _ _ _ _ _ _ _ _
   | exact spec_GoodName.mono _ _
   | exact spec_l1Printed.mono _ _
   | exact spec_l4Tilde.mono _ _
   | exact LeO.none _
   | refine LeO.ite ?_ ?_
   | refine LeO.bind ?_ (fun _ => ?_)
theorem spec_GoodChange.mono : ∀ a0 a1 a2 a3 a4 a5 a6 a7 a8 k, LeO (spec_GoodChange.f k a0 a1 a2 a3 a4 a5 a6 a7 a8) (spec_GoodChange.f (k + 1) a0 a1 a2 a3 a4 a5 a6 a7 a8) := by
 intro a0 a1 a2 a3 a4 a5 a6 a7 a8 k
 obtain ⟨ih0, ih1, ih2, ih3⟩ := spec_GoodChange.mono_l k
 unfold spec_GoodChange.f
 repeat' first
   | (with_reducible exact ih0 _ _ _ _ _ _ _ _ _ _)
   | (with_reducible exact ih1 _ _ _ _ _ _ _ _ _ _)
   | (with_reducible exact ih2 _ _ _ _ _ _ _ _ _ _ _)
   | (with_reducible exact ih3 _ _ _ _ _ _ _ _ _ _ _ _ _)
   | (with_reducible exact spec_GoodName.mono _ _)
   | (with_reducible exact spec_l1Printed.mono _ _)
   | (with_reducible exact spec_l4Tilde.mono _ _)
   | (with_reducible exact LeO.refl _)
   | (with_reducible exact LeO.none _)
   | (with_reducible refine LeO.ite ?_ ?_)
   | (with_reducible refine LeO.bind ?_ (fun _ => ?_))
   | exact ih0 _ _ _ _ _ _ _ _ _ _
   | exact ih1 _ _ _ _ _ _ _ _ _ _
   | exact ih2 _ _ _ _ _ _ _ _ _ _ _
   | exact ih3 _ _ _ _ _ _ _ _ _ _ _ _ _
   | exact spec_GoodName.mono _ _
   | exact spec_l1Printed.mono _ _
   | exact spec_l4Tilde.mono _ _
   | exact LeO.none _
   | refine LeO.ite ?_ ?_
   | refine LeO.bind ?_ (fun _ => ?_)
set_option maxHeartbeats 8000000 in
set_option maxRecDepth 100000 in
theorem spec_GoodChange.calls (k : Nat) (a0_0 : Int) (a0_1 : Int) (a0_2 : Int) (a0_3 : Int) (a0_4 : Int) (a0_5 : ByteArray) (a0_6 : ByteArray) (a0_7 : ByteArray) (a0_8 : ByteArray) (r : Bool) (w : World) (h : spec_GoodChange.f k a0_0 a0_1 a0_2 a0_3 a0_4 a0_5 a0_6 a0_7 a0_8 = some r) :
  Calls Try.prog 92 #[.agg #[.int .i64 a0_0, .int .i64 a0_1, .int .i64 a0_2, .int .i64 a0_3, .int .i64 a0_4, .string a0_5, .string a0_6, .string a0_7, .string a0_8]] w fun e w' => e = .returned (.bool r) ∧ Below w.heap.size w w' := by
 have hu95 := Try.underlying95
 have hu93 := Try.underlying93
 have HB := Aside0.mk (Below.refl w.heap.size w)
 have H : (if a0_0 < 1 then (spec_GoodChange.j0 k true a0_0 a0_1 a0_2 a0_3 a0_4 a0_5 a0_6 a0_7 a0_8) else (if a0_0 > 1000000000 then (spec_GoodChange.j0 k true a0_0 a0_1 a0_2 a0_3 a0_4 a0_5 a0_6 a0_7 a0_8) else (if a0_1 < 0 then (spec_GoodChange.j0 k true a0_0 a0_1 a0_2 a0_3 a0_4 a0_5 a0_6 a0_7 a0_8) else (if a0_1 > 99 then (spec_GoodChange.j0 k true a0_0 a0_1 a0_2 a0_3 a0_4 a0_5 a0_6 a0_7 a0_8) else (if a0_3 < 1 then (spec_GoodChange.j0 k true a0_0 a0_1 a0_2 a0_3 a0_4 a0_5 a0_6 a0_7 a0_8) else (spec_GoodChange.j0 k (decide (a0_3 > 1000)) a0_0 a0_1 a0_2 a0_3 a0_4 a0_5 a0_6 a0_7 a0_8)))))) = some r := h
 clear h
 have HC2 := Aside0.mk H
 clear H
 go_enter Try.func92, Try.ntmps92
 go_upto_region 1 with (first | ((with_reducible refine gate_dst (N := 1) rfl ?_); (try (refine gate_guard (by rfl) ?_; dsimp only)); refine box_event ?hg (N := 1) ?hd (cs := #[.int .i64 a0_0, .int .i64 a0_1, .int .i64 a0_2, .int .i64 a0_3, .int .i64 a0_4, .string a0_5, .string a0_6, .string a0_7, .string a0_8]) (t := 95) ?hr ?_; (case hd => rfl); (case hg => rfl); (case hr => first | (go_simp; done) | (go_simp; rfl)); intro gb147 hg w3 hbox hb; have n0_ := Aside0.mk (below_step (by repeat (first | (with_reducible first | exact HB.out | apply below_alloc | apply pw_below_drewN | apply below_drew1) | exact HB.out)) hb); have n1_ := Aside0.mk (hbox); have n2_ := Aside0.mk ((by rw [hg]; exact (below_size (by repeat (first | (with_reducible first | exact HB.out | apply below_alloc | apply pw_below_drewN | apply below_drew1) | exact HB.out))) : w.heap.size ≤ gb147)); have n3_ := Aside0.mk ((by rw [hg]; exact (below_size (by repeat (first | (with_reducible first | exact HB.out | apply below_alloc | apply pw_below_drewN | apply below_drew1) | exact HB.out))) : w.heap.size ≤ gb147)); clear HB; have HB := n0_; have BK147 := n1_; have GW147 := n2_; have GE147 := n3_; clear n0_ n1_ n2_ n3_; clear hb hbox hg))
 (try simp only [Act.put, List.setIfInBounds_toArray, List.set_cons_zero, List.set_cons_succ])
 go_cut [36] (fun v36 wc => ∃ (kq : Nat) (x36_1 : Bool), v36 = .bool x36_1 ∧ Aside0 (spec_GoodChange.j0 kq x36_1 a0_0 a0_1 a0_2 a0_3 a0_4 a0_5 a0_6 a0_7 a0_8 = some r) ∧ Aside0 (kq ≤ k) ∧ Aside0 (wc.heap[gb147]? = some (.cells #[.int .i64 a0_0, .int .i64 a0_1, .int .i64 a0_2, .int .i64 a0_3, .int .i64 a0_4, .string a0_5, .string a0_6, .string a0_7, .string a0_8] 95 (0, 0))) ∧ Aside0 (Below w.heap.size w wc))
 case first =>
  have H := HC2.out
  clear HC2
  by_cases c4 : a0_0 < 1
  ·rw [if_pos c4] at H
   have c4b0 : decide (a0_0 < 1) = true := decide_eq_true c4
   clear c4
   (first | rw [c4b0] | (simp only [i64_w, i32_w]; rw [c4b0]) | skip)
   have H' := Aside0.mk H
   clear H
   have hcz5_0 : w3.cell? ⟨gb147, 0, none⟩ = some (.int .i64 a0_0) := (blk_cell BK147.out 0).trans rfl
   have hcz5_1 : w3.cell? ⟨gb147, 1, none⟩ = some (.int .i64 a0_1) := (blk_cell BK147.out 1).trans rfl
   have hcz5_2 : w3.cell? ⟨gb147, 2, none⟩ = some (.int .i64 a0_2) := (blk_cell BK147.out 2).trans rfl
   have hcz5_3 : w3.cell? ⟨gb147, 3, none⟩ = some (.int .i64 a0_3) := (blk_cell BK147.out 3).trans rfl
   have hcz5_4 : w3.cell? ⟨gb147, 4, none⟩ = some (.int .i64 a0_4) := (blk_cell BK147.out 4).trans rfl
   have hcz5_5 : w3.cell? ⟨gb147, 5, none⟩ = some (.string a0_5) := (blk_cell BK147.out 5).trans rfl
   have hcz5_6 : w3.cell? ⟨gb147, 6, none⟩ = some (.string a0_6) := (blk_cell BK147.out 6).trans rfl
   have hcz5_7 : w3.cell? ⟨gb147, 7, none⟩ = some (.string a0_7) := (blk_cell BK147.out 7).trans rfl
   have hcz5_8 : w3.cell? ⟨gb147, 8, none⟩ = some (.string a0_8) := (blk_cell BK147.out 8).trans rfl
   have hfz5_0 := blk_frozen BK147.out 0
   have hfz5_1 := blk_frozen BK147.out 1
   have hfz5_2 := blk_frozen BK147.out 2
   have hfz5_3 := blk_frozen BK147.out 3
   have hfz5_4 := blk_frozen BK147.out 4
   have hfz5_5 := blk_frozen BK147.out 5
   have hfz5_6 := blk_frozen BK147.out 6
   have hfz5_7 := blk_frozen BK147.out 7
   have hfz5_8 := blk_frozen BK147.out 8
   go_wp2
   go_meet
   case rel => exact ⟨_, (true), (by first | rfl | (simp; done) | (simp [pw_ne_nil, pw_eq_nil]; done) | (simp [*]; done)), H', ⟨by first | omega | exact Nat.le_refl _⟩, ⟨by (with_reducible repeat (first | refine blk_drewN ?_ _ | refine blk_drew ?_ | refine blk_alloc ?_ _)); exact BK147.out⟩, ⟨by repeat (first | (with_reducible first | exact HB.out | apply below_alloc | apply pw_below_drewN | apply below_drew1 | refine below_set ?_ GE147.out) | exact HB.out)⟩⟩
  ·rw [if_neg c4] at H
   have c4b0 : decide (a0_0 < 1) = false := decide_eq_false c4
   clear c4
   (first | rw [c4b0] | (simp only [i64_w, i32_w]; rw [c4b0]) | skip)
   by_cases c6 : a0_0 > 1000000000
   ·rw [if_pos c6] at H
    have c6b0 : decide (1000000000 < a0_0) = true := decide_eq_true c6
    clear c6
    have H' := Aside0.mk H
    clear H
    have hcz7_0 : w3.cell? ⟨gb147, 0, none⟩ = some (.int .i64 a0_0) := (blk_cell BK147.out 0).trans rfl
    have hcz7_1 : w3.cell? ⟨gb147, 1, none⟩ = some (.int .i64 a0_1) := (blk_cell BK147.out 1).trans rfl
    have hcz7_2 : w3.cell? ⟨gb147, 2, none⟩ = some (.int .i64 a0_2) := (blk_cell BK147.out 2).trans rfl
    have hcz7_3 : w3.cell? ⟨gb147, 3, none⟩ = some (.int .i64 a0_3) := (blk_cell BK147.out 3).trans rfl
    have hcz7_4 : w3.cell? ⟨gb147, 4, none⟩ = some (.int .i64 a0_4) := (blk_cell BK147.out 4).trans rfl
    have hcz7_5 : w3.cell? ⟨gb147, 5, none⟩ = some (.string a0_5) := (blk_cell BK147.out 5).trans rfl
    have hcz7_6 : w3.cell? ⟨gb147, 6, none⟩ = some (.string a0_6) := (blk_cell BK147.out 6).trans rfl
    have hcz7_7 : w3.cell? ⟨gb147, 7, none⟩ = some (.string a0_7) := (blk_cell BK147.out 7).trans rfl
    have hcz7_8 : w3.cell? ⟨gb147, 8, none⟩ = some (.string a0_8) := (blk_cell BK147.out 8).trans rfl
    have hfz7_0 := blk_frozen BK147.out 0
    have hfz7_1 := blk_frozen BK147.out 1
    have hfz7_2 := blk_frozen BK147.out 2
    have hfz7_3 := blk_frozen BK147.out 3
    have hfz7_4 := blk_frozen BK147.out 4
    have hfz7_5 := blk_frozen BK147.out 5
    have hfz7_6 := blk_frozen BK147.out 6
    have hfz7_7 := blk_frozen BK147.out 7
    have hfz7_8 := blk_frozen BK147.out 8
    go_wp2
    go_meet
    case rel => exact ⟨_, (true), (by first | rfl | (simp; done) | (simp [pw_ne_nil, pw_eq_nil]; done) | (simp [*]; done)), H', ⟨by first | omega | exact Nat.le_refl _⟩, ⟨by (with_reducible repeat (first | refine blk_drewN ?_ _ | refine blk_drew ?_ | refine blk_alloc ?_ _)); exact BK147.out⟩, ⟨by repeat (first | (with_reducible first | exact HB.out | apply below_alloc | apply pw_below_drewN | apply below_drew1 | refine below_set ?_ GE147.out) | exact HB.out)⟩⟩
   ·rw [if_neg c6] at H
    have c6b0 : decide (1000000000 < a0_0) = false := decide_eq_false c6
    clear c6
    by_cases c8 : a0_1 < 0
    ·rw [if_pos c8] at H
     have c8b0 : decide (a0_1 < 0) = true := decide_eq_true c8
     clear c8
     have H' := Aside0.mk H
     clear H
     have hcz9_0 : w3.cell? ⟨gb147, 0, none⟩ = some (.int .i64 a0_0) := (blk_cell BK147.out 0).trans rfl
     have hcz9_1 : w3.cell? ⟨gb147, 1, none⟩ = some (.int .i64 a0_1) := (blk_cell BK147.out 1).trans rfl
     have hcz9_2 : w3.cell? ⟨gb147, 2, none⟩ = some (.int .i64 a0_2) := (blk_cell BK147.out 2).trans rfl
     have hcz9_3 : w3.cell? ⟨gb147, 3, none⟩ = some (.int .i64 a0_3) := (blk_cell BK147.out 3).trans rfl
     have hcz9_4 : w3.cell? ⟨gb147, 4, none⟩ = some (.int .i64 a0_4) := (blk_cell BK147.out 4).trans rfl
     have hcz9_5 : w3.cell? ⟨gb147, 5, none⟩ = some (.string a0_5) := (blk_cell BK147.out 5).trans rfl
     have hcz9_6 : w3.cell? ⟨gb147, 6, none⟩ = some (.string a0_6) := (blk_cell BK147.out 6).trans rfl
     have hcz9_7 : w3.cell? ⟨gb147, 7, none⟩ = some (.string a0_7) := (blk_cell BK147.out 7).trans rfl
     have hcz9_8 : w3.cell? ⟨gb147, 8, none⟩ = some (.string a0_8) := (blk_cell BK147.out 8).trans rfl
     have hfz9_0 := blk_frozen BK147.out 0
     have hfz9_1 := blk_frozen BK147.out 1
     have hfz9_2 := blk_frozen BK147.out 2
     have hfz9_3 := blk_frozen BK147.out 3
     have hfz9_4 := blk_frozen BK147.out 4
     have hfz9_5 := blk_frozen BK147.out 5
     have hfz9_6 := blk_frozen BK147.out 6
     have hfz9_7 := blk_frozen BK147.out 7
     have hfz9_8 := blk_frozen BK147.out 8
     go_wp2
     go_meet
     case rel => exact ⟨_, (true), (by first | rfl | (simp; done) | (simp [pw_ne_nil, pw_eq_nil]; done) | (simp [*]; done)), H', ⟨by first | omega | exact Nat.le_refl _⟩, ⟨by (with_reducible repeat (first | refine blk_drewN ?_ _ | refine blk_drew ?_ | refine blk_alloc ?_ _)); exact BK147.out⟩, ⟨by repeat (first | (with_reducible first | exact HB.out | apply below_alloc | apply pw_below_drewN | apply below_drew1 | refine below_set ?_ GE147.out) | exact HB.out)⟩⟩
    ·rw [if_neg c8] at H
     have c8b0 : decide (a0_1 < 0) = false := decide_eq_false c8
     clear c8
     by_cases c10 : a0_1 > 99
     ·rw [if_pos c10] at H
      have c10b0 : decide (99 < a0_1) = true := decide_eq_true c10
      clear c10
      have H' := Aside0.mk H
      clear H
      have hcz11_0 : w3.cell? ⟨gb147, 0, none⟩ = some (.int .i64 a0_0) := (blk_cell BK147.out 0).trans rfl
      have hcz11_1 : w3.cell? ⟨gb147, 1, none⟩ = some (.int .i64 a0_1) := (blk_cell BK147.out 1).trans rfl
      have hcz11_2 : w3.cell? ⟨gb147, 2, none⟩ = some (.int .i64 a0_2) := (blk_cell BK147.out 2).trans rfl
      have hcz11_3 : w3.cell? ⟨gb147, 3, none⟩ = some (.int .i64 a0_3) := (blk_cell BK147.out 3).trans rfl
      have hcz11_4 : w3.cell? ⟨gb147, 4, none⟩ = some (.int .i64 a0_4) := (blk_cell BK147.out 4).trans rfl
      have hcz11_5 : w3.cell? ⟨gb147, 5, none⟩ = some (.string a0_5) := (blk_cell BK147.out 5).trans rfl
      have hcz11_6 : w3.cell? ⟨gb147, 6, none⟩ = some (.string a0_6) := (blk_cell BK147.out 6).trans rfl
      have hcz11_7 : w3.cell? ⟨gb147, 7, none⟩ = some (.string a0_7) := (blk_cell BK147.out 7).trans rfl
      have hcz11_8 : w3.cell? ⟨gb147, 8, none⟩ = some (.string a0_8) := (blk_cell BK147.out 8).trans rfl
      have hfz11_0 := blk_frozen BK147.out 0
      have hfz11_1 := blk_frozen BK147.out 1
      have hfz11_2 := blk_frozen BK147.out 2
      have hfz11_3 := blk_frozen BK147.out 3
      have hfz11_4 := blk_frozen BK147.out 4
      have hfz11_5 := blk_frozen BK147.out 5
      have hfz11_6 := blk_frozen BK147.out 6
      have hfz11_7 := blk_frozen BK147.out 7
      have hfz11_8 := blk_frozen BK147.out 8
      go_wp2
      go_meet
      case rel => exact ⟨_, (true), (by first | rfl | (simp; done) | (simp [pw_ne_nil, pw_eq_nil]; done) | (simp [*]; done)), H', ⟨by first | omega | exact Nat.le_refl _⟩, ⟨by (with_reducible repeat (first | refine blk_drewN ?_ _ | refine blk_drew ?_ | refine blk_alloc ?_ _)); exact BK147.out⟩, ⟨by repeat (first | (with_reducible first | exact HB.out | apply below_alloc | apply pw_below_drewN | apply below_drew1 | refine below_set ?_ GE147.out) | exact HB.out)⟩⟩
     ·rw [if_neg c10] at H
      have c10b0 : decide (99 < a0_1) = false := decide_eq_false c10
      clear c10
      by_cases c12 : a0_3 < 1
      ·rw [if_pos c12] at H
       have c12b0 : decide (a0_3 < 1) = true := decide_eq_true c12
       clear c12
       have H' := Aside0.mk H
       clear H
       have hcz13_0 : w3.cell? ⟨gb147, 0, none⟩ = some (.int .i64 a0_0) := (blk_cell BK147.out 0).trans rfl
       have hcz13_1 : w3.cell? ⟨gb147, 1, none⟩ = some (.int .i64 a0_1) := (blk_cell BK147.out 1).trans rfl
       have hcz13_2 : w3.cell? ⟨gb147, 2, none⟩ = some (.int .i64 a0_2) := (blk_cell BK147.out 2).trans rfl
       have hcz13_3 : w3.cell? ⟨gb147, 3, none⟩ = some (.int .i64 a0_3) := (blk_cell BK147.out 3).trans rfl
       have hcz13_4 : w3.cell? ⟨gb147, 4, none⟩ = some (.int .i64 a0_4) := (blk_cell BK147.out 4).trans rfl
       have hcz13_5 : w3.cell? ⟨gb147, 5, none⟩ = some (.string a0_5) := (blk_cell BK147.out 5).trans rfl
       have hcz13_6 : w3.cell? ⟨gb147, 6, none⟩ = some (.string a0_6) := (blk_cell BK147.out 6).trans rfl
       have hcz13_7 : w3.cell? ⟨gb147, 7, none⟩ = some (.string a0_7) := (blk_cell BK147.out 7).trans rfl
       have hcz13_8 : w3.cell? ⟨gb147, 8, none⟩ = some (.string a0_8) := (blk_cell BK147.out 8).trans rfl
       have hfz13_0 := blk_frozen BK147.out 0
       have hfz13_1 := blk_frozen BK147.out 1
       have hfz13_2 := blk_frozen BK147.out 2
       have hfz13_3 := blk_frozen BK147.out 3
       have hfz13_4 := blk_frozen BK147.out 4
       have hfz13_5 := blk_frozen BK147.out 5
       have hfz13_6 := blk_frozen BK147.out 6
       have hfz13_7 := blk_frozen BK147.out 7
       have hfz13_8 := blk_frozen BK147.out 8
       go_wp2
       go_meet
       case rel => exact ⟨_, (true), (by first | rfl | (simp; done) | (simp [pw_ne_nil, pw_eq_nil]; done) | (simp [*]; done)), H', ⟨by first | omega | exact Nat.le_refl _⟩, ⟨by (with_reducible repeat (first | refine blk_drewN ?_ _ | refine blk_drew ?_ | refine blk_alloc ?_ _)); exact BK147.out⟩, ⟨by repeat (first | (with_reducible first | exact HB.out | apply below_alloc | apply pw_below_drewN | apply below_drew1 | refine below_set ?_ GE147.out) | exact HB.out)⟩⟩
      ·rw [if_neg c12] at H
       have c12b0 : decide (a0_3 < 1) = false := decide_eq_false c12
       clear c12
       have H' := Aside0.mk H
       clear H
       have hcz14_0 : w3.cell? ⟨gb147, 0, none⟩ = some (.int .i64 a0_0) := (blk_cell BK147.out 0).trans rfl
       have hcz14_1 : w3.cell? ⟨gb147, 1, none⟩ = some (.int .i64 a0_1) := (blk_cell BK147.out 1).trans rfl
       have hcz14_2 : w3.cell? ⟨gb147, 2, none⟩ = some (.int .i64 a0_2) := (blk_cell BK147.out 2).trans rfl
       have hcz14_3 : w3.cell? ⟨gb147, 3, none⟩ = some (.int .i64 a0_3) := (blk_cell BK147.out 3).trans rfl
       have hcz14_4 : w3.cell? ⟨gb147, 4, none⟩ = some (.int .i64 a0_4) := (blk_cell BK147.out 4).trans rfl
       have hcz14_5 : w3.cell? ⟨gb147, 5, none⟩ = some (.string a0_5) := (blk_cell BK147.out 5).trans rfl
       have hcz14_6 : w3.cell? ⟨gb147, 6, none⟩ = some (.string a0_6) := (blk_cell BK147.out 6).trans rfl
       have hcz14_7 : w3.cell? ⟨gb147, 7, none⟩ = some (.string a0_7) := (blk_cell BK147.out 7).trans rfl
       have hcz14_8 : w3.cell? ⟨gb147, 8, none⟩ = some (.string a0_8) := (blk_cell BK147.out 8).trans rfl
       have hfz14_0 := blk_frozen BK147.out 0
       have hfz14_1 := blk_frozen BK147.out 1
       have hfz14_2 := blk_frozen BK147.out 2
       have hfz14_3 := blk_frozen BK147.out 3
       have hfz14_4 := blk_frozen BK147.out 4
       have hfz14_5 := blk_frozen BK147.out 5
       have hfz14_6 := blk_frozen BK147.out 6
       have hfz14_7 := blk_frozen BK147.out 7
       have hfz14_8 := blk_frozen BK147.out 8
       go_wp2
       go_meet
       case rel => exact ⟨_, (decide (a0_3 > 1000)), (by first | rfl | (simp; done) | (simp [pw_ne_nil, pw_eq_nil]; done) | (simp [*]; done)), H', ⟨by first | omega | exact Nat.le_refl _⟩, ⟨by (with_reducible repeat (first | refine blk_drewN ?_ _ | refine blk_drew ?_ | refine blk_alloc ?_ _)); exact BK147.out⟩, ⟨by repeat (first | (with_reducible first | exact HB.out | apply below_alloc | apply pw_below_drewN | apply below_drew1 | refine below_set ?_ GE147.out) | exact HB.out)⟩⟩
 case rest =>
  clear HC2
  try clear c1
  try clear p2
  try clear c4
  try clear c4b0
  try clear c6
  try clear c6b0
  try clear c8
  try clear c8b0
  try clear c9
  try clear c10
  try clear c10b0
  try clear c12
  try clear c12b0
  try clear hcz11_0
  try clear hcz11_1
  try clear hcz11_2
  try clear hcz11_3
  try clear hcz11_4
  try clear hcz11_5
  try clear hcz11_6
  try clear hcz11_7
  try clear hcz11_8
  try clear hcz13_0
  try clear hcz13_1
  try clear hcz13_2
  try clear hcz13_3
  try clear hcz13_4
  try clear hcz13_5
  try clear hcz13_6
  try clear hcz13_7
  try clear hcz13_8
  try clear hcz14_0
  try clear hcz14_1
  try clear hcz14_2
  try clear hcz14_3
  try clear hcz14_4
  try clear hcz14_5
  try clear hcz14_6
  try clear hcz14_7
  try clear hcz14_8
  try clear hcz5_0
  try clear hcz5_1
  try clear hcz5_2
  try clear hcz5_3
  try clear hcz5_4
  try clear hcz5_5
  try clear hcz5_6
  try clear hcz5_7
  try clear hcz5_8
  try clear hcz7_0
  try clear hcz7_1
  try clear hcz7_2
  try clear hcz7_3
  try clear hcz7_4
  try clear hcz7_5
  try clear hcz7_6
  try clear hcz7_7
  try clear hcz7_8
  try clear hcz9_0
  try clear hcz9_1
  try clear hcz9_2
  try clear hcz9_3
  try clear hcz9_4
  try clear hcz9_5
  try clear hcz9_6
  try clear hcz9_7
  try clear hcz9_8
  try clear hfz11_0
  try clear hfz11_1
  try clear hfz11_2
  try clear hfz11_3
  try clear hfz11_4
  try clear hfz11_5
  try clear hfz11_6
  try clear hfz11_7
  try clear hfz11_8
  try clear hfz13_0
  try clear hfz13_1
  try clear hfz13_2
  try clear hfz13_3
  try clear hfz13_4
  try clear hfz13_5
  try clear hfz13_6
  try clear hfz13_7
  try clear hfz13_8
  try clear hfz14_0
  try clear hfz14_1
  try clear hfz14_2
  try clear hfz14_3
  try clear hfz14_4
  try clear hfz14_5
  try clear hfz14_6
  try clear hfz14_7
  try clear hfz14_8
  try clear hfz5_0
  try clear hfz5_1
  try clear hfz5_2
  try clear hfz5_3
  try clear hfz5_4
  try clear hfz5_5
  try clear hfz5_6
  try clear hfz5_7
  try clear hfz5_8
  try clear hfz7_0
  try clear hfz7_1
  try clear hfz7_2
  try clear hfz7_3
  try clear hfz7_4
  try clear hfz7_5
  try clear hfz7_6
  try clear hfz7_7
  try clear hfz7_8
  try clear hfz9_0
  try clear hfz9_1
  try clear hfz9_2
  try clear hfz9_3
  try clear hfz9_4
  try clear hfz9_5
  try clear hfz9_6
  try clear hfz9_7
  try clear hfz9_8
  obtain ⟨kq, x36_1, rfl, HA, HJ1, BK147, HB⟩ := hcut
  cases kq with
  | zero => exact absurd HA.out (by simp [spec_GoodChange.j0])
  | succ kj1 =>
   have H := HA.out
   clear HA
   simp only [spec_GoodChange.j0] at H
   by_cases c15 : x36_1 = true
   ·subst c15
    have H1 : (some false) = some r := by rw [if_pos rfl] at H; exact H
    clear H
    have H := H1
    clear H1
    obtain rfl := Option.some.inj H
    go_wp2
    go_ret
    exact ⟨by first | rfl | (simp [errW_none, errW_some] <;> rfl) | (simp [*, errW_none, errW_some] <;> rfl), by repeat (first | (with_reducible first | exact HB.out | apply below_alloc | apply pw_below_drewN | apply below_drew1 | refine below_set ?_ GE147.out) | exact HB.out)⟩
   ·replace c15 := Bool.eq_false_iff.mpr c15
    subst c15
    have H1 : (if a0_4 = 0 then (spec_GoodChange.j1 kj1 (a0_5.toList == ([] : List UInt8) && (a0_6.toList == ([] : List UInt8))) a0_0 a0_1 a0_2 a0_3 a0_4 a0_5 a0_6 a0_7 a0_8) else (spec_GoodChange.j1 kj1 false a0_0 a0_1 a0_2 a0_3 a0_4 a0_5 a0_6 a0_7 a0_8)) = some r := by rw [if_neg (show ¬ (false = true) by decide)] at H; exact H
    clear H
    have H := H1
    clear H1
    have HC16 := Aside0.mk H
    clear H
    go_upto_region 3 with (fail)
    go_cut [3] (fun v3 wc => ∃ (kq : Nat) (x3_15 : Bool), v3 = .bool x3_15 ∧ Aside0 (spec_GoodChange.j1 kq x3_15 a0_0 a0_1 a0_2 a0_3 a0_4 a0_5 a0_6 a0_7 a0_8 = some r) ∧ Aside0 (kq ≤ kj1) ∧ Aside0 (wc.heap[gb147]? = some (.cells #[.int .i64 a0_0, .int .i64 a0_1, .int .i64 a0_2, .int .i64 a0_3, .int .i64 a0_4, .string a0_5, .string a0_6, .string a0_7, .string a0_8] 95 (0, 0))) ∧ Aside0 (Below w.heap.size w wc))
    case first =>
     have H := HC16.out
     clear HC16
     by_cases c17 : a0_4 = 0
     ·rw [if_pos c17] at H
      have c17b0 : (a0_4 == 0) = true := beq_iff_eq.mpr c17
      have c17b1 : (a0_4 != 0) = false := bne_eq_false_iff_eq.mpr c17
      clear c17
      (first | rw [c17b0] | (simp only [i64_w, i32_w]; rw [c17b0]) | skip)
      have H' := Aside0.mk H
      clear H
      have hcz18_0 : wc.cell? ⟨gb147, 0, none⟩ = some (.int .i64 a0_0) := (blk_cell BK147.out 0).trans rfl
      have hcz18_1 : wc.cell? ⟨gb147, 1, none⟩ = some (.int .i64 a0_1) := (blk_cell BK147.out 1).trans rfl
      have hcz18_2 : wc.cell? ⟨gb147, 2, none⟩ = some (.int .i64 a0_2) := (blk_cell BK147.out 2).trans rfl
      have hcz18_3 : wc.cell? ⟨gb147, 3, none⟩ = some (.int .i64 a0_3) := (blk_cell BK147.out 3).trans rfl
      have hcz18_4 : wc.cell? ⟨gb147, 4, none⟩ = some (.int .i64 a0_4) := (blk_cell BK147.out 4).trans rfl
      have hcz18_5 : wc.cell? ⟨gb147, 5, none⟩ = some (.string a0_5) := (blk_cell BK147.out 5).trans rfl
      have hcz18_6 : wc.cell? ⟨gb147, 6, none⟩ = some (.string a0_6) := (blk_cell BK147.out 6).trans rfl
      have hcz18_7 : wc.cell? ⟨gb147, 7, none⟩ = some (.string a0_7) := (blk_cell BK147.out 7).trans rfl
      have hcz18_8 : wc.cell? ⟨gb147, 8, none⟩ = some (.string a0_8) := (blk_cell BK147.out 8).trans rfl
      have hfz18_0 := blk_frozen BK147.out 0
      have hfz18_1 := blk_frozen BK147.out 1
      have hfz18_2 := blk_frozen BK147.out 2
      have hfz18_3 := blk_frozen BK147.out 3
      have hfz18_4 := blk_frozen BK147.out 4
      have hfz18_5 := blk_frozen BK147.out 5
      have hfz18_6 := blk_frozen BK147.out 6
      have hfz18_7 := blk_frozen BK147.out 7
      have hfz18_8 := blk_frozen BK147.out 8
      go_wp2
      go_meet
      case rel => exact ⟨_, ((a0_5.toList == ([] : List UInt8) && (a0_6.toList == ([] : List UInt8)))), (by first | rfl | (simp; done) | (simp [pw_ne_nil, pw_eq_nil]; done) | (simp [*]; done)), H', ⟨by have := HJ1.out; first | omega | exact Nat.le_refl _⟩, ⟨by (with_reducible repeat (first | refine blk_drewN ?_ _ | refine blk_drew ?_ | refine blk_alloc ?_ _)); exact BK147.out⟩, ⟨by repeat (first | (with_reducible first | exact HB.out | apply below_alloc | apply pw_below_drewN | apply below_drew1 | refine below_set ?_ GE147.out) | exact HB.out)⟩⟩
     ·rw [if_neg c17] at H
      have c17b0 : (a0_4 == 0) = false := beq_eq_false_iff_ne.mpr c17
      have c17b1 : (a0_4 != 0) = true := bne_iff_ne.mpr c17
      (first | rw [c17b0] | (simp only [i64_w, i32_w]; rw [c17b0]) | skip)
      have H' := Aside0.mk H
      clear H
      have hcz19_0 : wc.cell? ⟨gb147, 0, none⟩ = some (.int .i64 a0_0) := (blk_cell BK147.out 0).trans rfl
      have hcz19_1 : wc.cell? ⟨gb147, 1, none⟩ = some (.int .i64 a0_1) := (blk_cell BK147.out 1).trans rfl
      have hcz19_2 : wc.cell? ⟨gb147, 2, none⟩ = some (.int .i64 a0_2) := (blk_cell BK147.out 2).trans rfl
      have hcz19_3 : wc.cell? ⟨gb147, 3, none⟩ = some (.int .i64 a0_3) := (blk_cell BK147.out 3).trans rfl
      have hcz19_4 : wc.cell? ⟨gb147, 4, none⟩ = some (.int .i64 a0_4) := (blk_cell BK147.out 4).trans rfl
      have hcz19_5 : wc.cell? ⟨gb147, 5, none⟩ = some (.string a0_5) := (blk_cell BK147.out 5).trans rfl
      have hcz19_6 : wc.cell? ⟨gb147, 6, none⟩ = some (.string a0_6) := (blk_cell BK147.out 6).trans rfl
      have hcz19_7 : wc.cell? ⟨gb147, 7, none⟩ = some (.string a0_7) := (blk_cell BK147.out 7).trans rfl
      have hcz19_8 : wc.cell? ⟨gb147, 8, none⟩ = some (.string a0_8) := (blk_cell BK147.out 8).trans rfl
      have hfz19_0 := blk_frozen BK147.out 0
      have hfz19_1 := blk_frozen BK147.out 1
      have hfz19_2 := blk_frozen BK147.out 2
      have hfz19_3 := blk_frozen BK147.out 3
      have hfz19_4 := blk_frozen BK147.out 4
      have hfz19_5 := blk_frozen BK147.out 5
      have hfz19_6 := blk_frozen BK147.out 6
      have hfz19_7 := blk_frozen BK147.out 7
      have hfz19_8 := blk_frozen BK147.out 8
      go_wp2
      go_meet
      case rel => exact ⟨_, (false), (by first | rfl | (simp; done) | (simp [pw_ne_nil, pw_eq_nil]; done) | (simp [*]; done)), H', ⟨by have := HJ1.out; first | omega | exact Nat.le_refl _⟩, ⟨by (with_reducible repeat (first | refine blk_drewN ?_ _ | refine blk_drew ?_ | refine blk_alloc ?_ _)); exact BK147.out⟩, ⟨by repeat (first | (with_reducible first | exact HB.out | apply below_alloc | apply pw_below_drewN | apply below_drew1 | refine below_set ?_ GE147.out) | exact HB.out)⟩⟩
    case rest =>
     clear HC16
     try clear c1
     try clear p2
     try clear c4
     try clear c4b0
     try clear c6
     try clear c6b0
     try clear c8
     try clear c8b0
     try clear c9
     try clear c10
     try clear c10b0
     try clear c12
     try clear c12b0
     try clear c15
     try clear c17
     try clear c17b0
     try clear c17b1
     try clear hcz11_0
     try clear hcz11_1
     try clear hcz11_2
     try clear hcz11_3
     try clear hcz11_4
     try clear hcz11_5
     try clear hcz11_6
     try clear hcz11_7
     try clear hcz11_8
     try clear hcz13_0
     try clear hcz13_1
     try clear hcz13_2
     try clear hcz13_3
     try clear hcz13_4
     try clear hcz13_5
     try clear hcz13_6
     try clear hcz13_7
     try clear hcz13_8
     try clear hcz14_0
     try clear hcz14_1
     try clear hcz14_2
     try clear hcz14_3
     try clear hcz14_4
     try clear hcz14_5
     try clear hcz14_6
     try clear hcz14_7
     try clear hcz14_8
     try clear hcz18_0
     try clear hcz18_1
     try clear hcz18_2
     try clear hcz18_3
     try clear hcz18_4
     try clear hcz18_5
     try clear hcz18_6
     try clear hcz18_7
     try clear hcz18_8
     try clear hcz19_0
     try clear hcz19_1
     try clear hcz19_2
     try clear hcz19_3
     try clear hcz19_4
     try clear hcz19_5
     try clear hcz19_6
     try clear hcz19_7
     try clear hcz19_8
     try clear hcz5_0
     try clear hcz5_1
     try clear hcz5_2
     try clear hcz5_3
     try clear hcz5_4
     try clear hcz5_5
     try clear hcz5_6
     try clear hcz5_7
     try clear hcz5_8
     try clear hcz7_0
     try clear hcz7_1
     try clear hcz7_2
     try clear hcz7_3
     try clear hcz7_4
     try clear hcz7_5
     try clear hcz7_6
     try clear hcz7_7
     try clear hcz7_8
     try clear hcz9_0
     try clear hcz9_1
     try clear hcz9_2
     try clear hcz9_3
     try clear hcz9_4
     try clear hcz9_5
     try clear hcz9_6
     try clear hcz9_7
     try clear hcz9_8
     try clear hfz11_0
     try clear hfz11_1
     try clear hfz11_2
     try clear hfz11_3
     try clear hfz11_4
     try clear hfz11_5
     try clear hfz11_6
     try clear hfz11_7
     try clear hfz11_8
     try clear hfz13_0
     try clear hfz13_1
     try clear hfz13_2
     try clear hfz13_3
     try clear hfz13_4
     try clear hfz13_5
     try clear hfz13_6
     try clear hfz13_7
     try clear hfz13_8
     try clear hfz14_0
     try clear hfz14_1
     try clear hfz14_2
     try clear hfz14_3
     try clear hfz14_4
     try clear hfz14_5
     try clear hfz14_6
     try clear hfz14_7
     try clear hfz14_8
     try clear hfz18_0
     try clear hfz18_1
     try clear hfz18_2
     try clear hfz18_3
     try clear hfz18_4
     try clear hfz18_5
     try clear hfz18_6
     try clear hfz18_7
     try clear hfz18_8
     try clear hfz19_0
     try clear hfz19_1
     try clear hfz19_2
     try clear hfz19_3
     try clear hfz19_4
     try clear hfz19_5
     try clear hfz19_6
     try clear hfz19_7
     try clear hfz19_8
     try clear hfz5_0
     try clear hfz5_1
     try clear hfz5_2
     try clear hfz5_3
     try clear hfz5_4
     try clear hfz5_5
     try clear hfz5_6
     try clear hfz5_7
     try clear hfz5_8
     try clear hfz7_0
     try clear hfz7_1
     try clear hfz7_2
     try clear hfz7_3
     try clear hfz7_4
     try clear hfz7_5
     try clear hfz7_6
     try clear hfz7_7
     try clear hfz7_8
     try clear hfz9_0
     try clear hfz9_1
     try clear hfz9_2
     try clear hfz9_3
     try clear hfz9_4
     try clear hfz9_5
     try clear hfz9_6
     try clear hfz9_7
     try clear hfz9_8
     try clear p2
     obtain ⟨kq, x3_15, rfl, HA, HJ15, BK147, HB⟩ := hcut
     cases kq with
     | zero => exact absurd HA.out (by simp [spec_GoodChange.j1])
     | succ kj15 =>
      have H := HA.out
      clear HA
      simp only [spec_GoodChange.j1] at H
      have HC20 := Aside0.mk H
      clear H
      go_upto_region 4 with (fail)
      go_cut [4] (fun v4 wc => ∃ (kq : Nat) (x4_19 : Bool), v4 = .bool x4_19 ∧ Aside0 (spec_GoodChange.j2 kq x3_15 x4_19 a0_0 a0_1 a0_2 a0_3 a0_4 a0_5 a0_6 a0_7 a0_8 = some r) ∧ Aside0 (kq ≤ kj15) ∧ Aside0 (wc.heap[gb147]? = some (.cells #[.int .i64 a0_0, .int .i64 a0_1, .int .i64 a0_2, .int .i64 a0_3, .int .i64 a0_4, .string a0_5, .string a0_6, .string a0_7, .string a0_8] 95 (0, 0))) ∧ Aside0 (Below w.heap.size w wc))
      case first =>
       have H := HC20.out
       clear HC20
       by_cases c21 : a0_7.toList = ([] : List UInt8)
       ·rw [if_pos c21] at H
        have c21b0 : (a0_7.toList == ([] : List UInt8)) = true := beq_iff_eq.mpr c21
        have c21b1 : (a0_7.toList != ([] : List UInt8)) = false := bne_eq_false_iff_eq.mpr c21
        clear c21
        (first | rw [c21b0] | (simp only [i64_w, i32_w]; rw [c21b0]) | skip)
        have H' := Aside0.mk H
        clear H
        have hcz22_0 : wc.cell? ⟨gb147, 0, none⟩ = some (.int .i64 a0_0) := (blk_cell BK147.out 0).trans rfl
        have hcz22_1 : wc.cell? ⟨gb147, 1, none⟩ = some (.int .i64 a0_1) := (blk_cell BK147.out 1).trans rfl
        have hcz22_2 : wc.cell? ⟨gb147, 2, none⟩ = some (.int .i64 a0_2) := (blk_cell BK147.out 2).trans rfl
        have hcz22_3 : wc.cell? ⟨gb147, 3, none⟩ = some (.int .i64 a0_3) := (blk_cell BK147.out 3).trans rfl
        have hcz22_4 : wc.cell? ⟨gb147, 4, none⟩ = some (.int .i64 a0_4) := (blk_cell BK147.out 4).trans rfl
        have hcz22_5 : wc.cell? ⟨gb147, 5, none⟩ = some (.string a0_5) := (blk_cell BK147.out 5).trans rfl
        have hcz22_6 : wc.cell? ⟨gb147, 6, none⟩ = some (.string a0_6) := (blk_cell BK147.out 6).trans rfl
        have hcz22_7 : wc.cell? ⟨gb147, 7, none⟩ = some (.string a0_7) := (blk_cell BK147.out 7).trans rfl
        have hcz22_8 : wc.cell? ⟨gb147, 8, none⟩ = some (.string a0_8) := (blk_cell BK147.out 8).trans rfl
        have hfz22_0 := blk_frozen BK147.out 0
        have hfz22_1 := blk_frozen BK147.out 1
        have hfz22_2 := blk_frozen BK147.out 2
        have hfz22_3 := blk_frozen BK147.out 3
        have hfz22_4 := blk_frozen BK147.out 4
        have hfz22_5 := blk_frozen BK147.out 5
        have hfz22_6 := blk_frozen BK147.out 6
        have hfz22_7 := blk_frozen BK147.out 7
        have hfz22_8 := blk_frozen BK147.out 8
        go_wp2
        go_meet
        case rel => exact ⟨_, ((a0_8.toList == ([] : List UInt8))), (by first | rfl | (simp; done) | (simp [pw_ne_nil, pw_eq_nil]; done) | (simp [*]; done)), H', ⟨by have := HJ1.out; have := HJ15.out; first | omega | exact Nat.le_refl _⟩, ⟨by (with_reducible repeat (first | refine blk_drewN ?_ _ | refine blk_drew ?_ | refine blk_alloc ?_ _)); exact BK147.out⟩, ⟨by repeat (first | (with_reducible first | exact HB.out | apply below_alloc | apply pw_below_drewN | apply below_drew1 | refine below_set ?_ GE147.out) | exact HB.out)⟩⟩
       ·rw [if_neg c21] at H
        have c21b0 : (a0_7.toList == ([] : List UInt8)) = false := beq_eq_false_iff_ne.mpr c21
        have c21b1 : (a0_7.toList != ([] : List UInt8)) = true := bne_iff_ne.mpr c21
        (first | rw [c21b0] | (simp only [i64_w, i32_w]; rw [c21b0]) | skip)
        have H' := Aside0.mk H
        clear H
        have hcz23_0 : wc.cell? ⟨gb147, 0, none⟩ = some (.int .i64 a0_0) := (blk_cell BK147.out 0).trans rfl
        have hcz23_1 : wc.cell? ⟨gb147, 1, none⟩ = some (.int .i64 a0_1) := (blk_cell BK147.out 1).trans rfl
        have hcz23_2 : wc.cell? ⟨gb147, 2, none⟩ = some (.int .i64 a0_2) := (blk_cell BK147.out 2).trans rfl
        have hcz23_3 : wc.cell? ⟨gb147, 3, none⟩ = some (.int .i64 a0_3) := (blk_cell BK147.out 3).trans rfl
        have hcz23_4 : wc.cell? ⟨gb147, 4, none⟩ = some (.int .i64 a0_4) := (blk_cell BK147.out 4).trans rfl
        have hcz23_5 : wc.cell? ⟨gb147, 5, none⟩ = some (.string a0_5) := (blk_cell BK147.out 5).trans rfl
        have hcz23_6 : wc.cell? ⟨gb147, 6, none⟩ = some (.string a0_6) := (blk_cell BK147.out 6).trans rfl
        have hcz23_7 : wc.cell? ⟨gb147, 7, none⟩ = some (.string a0_7) := (blk_cell BK147.out 7).trans rfl
        have hcz23_8 : wc.cell? ⟨gb147, 8, none⟩ = some (.string a0_8) := (blk_cell BK147.out 8).trans rfl
        have hfz23_0 := blk_frozen BK147.out 0
        have hfz23_1 := blk_frozen BK147.out 1
        have hfz23_2 := blk_frozen BK147.out 2
        have hfz23_3 := blk_frozen BK147.out 3
        have hfz23_4 := blk_frozen BK147.out 4
        have hfz23_5 := blk_frozen BK147.out 5
        have hfz23_6 := blk_frozen BK147.out 6
        have hfz23_7 := blk_frozen BK147.out 7
        have hfz23_8 := blk_frozen BK147.out 8
        go_wp2
        go_meet
        case rel => exact ⟨_, (false), (by first | rfl | (simp; done) | (simp [pw_ne_nil, pw_eq_nil]; done) | (simp [*]; done)), H', ⟨by have := HJ1.out; have := HJ15.out; first | omega | exact Nat.le_refl _⟩, ⟨by (with_reducible repeat (first | refine blk_drewN ?_ _ | refine blk_drew ?_ | refine blk_alloc ?_ _)); exact BK147.out⟩, ⟨by repeat (first | (with_reducible first | exact HB.out | apply below_alloc | apply pw_below_drewN | apply below_drew1 | refine below_set ?_ GE147.out) | exact HB.out)⟩⟩
      case rest =>
       clear HC20
       try clear c1
       try clear c2
       try clear p2
       try clear c4
       try clear c4b0
       try clear c6
       try clear c6b0
       try clear c8
       try clear c8b0
       try clear c9
       try clear c10
       try clear c10b0
       try clear c12
       try clear c12b0
       try clear c15
       try clear c17
       try clear c17b0
       try clear c17b1
       try clear c21
       try clear c21b0
       try clear c21b1
       try clear hcz11_0
       try clear hcz11_1
       try clear hcz11_2
       try clear hcz11_3
       try clear hcz11_4
       try clear hcz11_5
       try clear hcz11_6
       try clear hcz11_7
       try clear hcz11_8
       try clear hcz13_0
       try clear hcz13_1
       try clear hcz13_2
       try clear hcz13_3
       try clear hcz13_4
       try clear hcz13_5
       try clear hcz13_6
       try clear hcz13_7
       try clear hcz13_8
       try clear hcz14_0
       try clear hcz14_1
       try clear hcz14_2
       try clear hcz14_3
       try clear hcz14_4
       try clear hcz14_5
       try clear hcz14_6
       try clear hcz14_7
       try clear hcz14_8
       try clear hcz18_0
       try clear hcz18_1
       try clear hcz18_2
       try clear hcz18_3
       try clear hcz18_4
       try clear hcz18_5
       try clear hcz18_6
       try clear hcz18_7
       try clear hcz18_8
       try clear hcz19_0
       try clear hcz19_1
       try clear hcz19_2
       try clear hcz19_3
       try clear hcz19_4
       try clear hcz19_5
       try clear hcz19_6
       try clear hcz19_7
       try clear hcz19_8
       try clear hcz22_0
       try clear hcz22_1
       try clear hcz22_2
       try clear hcz22_3
       try clear hcz22_4
       try clear hcz22_5
       try clear hcz22_6
       try clear hcz22_7
       try clear hcz22_8
       try clear hcz23_0
       try clear hcz23_1
       try clear hcz23_2
       try clear hcz23_3
       try clear hcz23_4
       try clear hcz23_5
       try clear hcz23_6
       try clear hcz23_7
       try clear hcz23_8
       try clear hcz5_0
       try clear hcz5_1
       try clear hcz5_2
       try clear hcz5_3
       try clear hcz5_4
       try clear hcz5_5
       try clear hcz5_6
       try clear hcz5_7
       try clear hcz5_8
       try clear hcz7_0
       try clear hcz7_1
       try clear hcz7_2
       try clear hcz7_3
       try clear hcz7_4
       try clear hcz7_5
       try clear hcz7_6
       try clear hcz7_7
       try clear hcz7_8
       try clear hcz9_0
       try clear hcz9_1
       try clear hcz9_2
       try clear hcz9_3
       try clear hcz9_4
       try clear hcz9_5
       try clear hcz9_6
       try clear hcz9_7
       try clear hcz9_8
       try clear hfz11_0
       try clear hfz11_1
       try clear hfz11_2
       try clear hfz11_3
       try clear hfz11_4
       try clear hfz11_5
       try clear hfz11_6
       try clear hfz11_7
       try clear hfz11_8
       try clear hfz13_0
       try clear hfz13_1
       try clear hfz13_2
       try clear hfz13_3
       try clear hfz13_4
       try clear hfz13_5
       try clear hfz13_6
       try clear hfz13_7
       try clear hfz13_8
       try clear hfz14_0
       try clear hfz14_1
       try clear hfz14_2
       try clear hfz14_3
       try clear hfz14_4
       try clear hfz14_5
       try clear hfz14_6
       try clear hfz14_7
       try clear hfz14_8
       try clear hfz18_0
       try clear hfz18_1
       try clear hfz18_2
       try clear hfz18_3
       try clear hfz18_4
       try clear hfz18_5
       try clear hfz18_6
       try clear hfz18_7
       try clear hfz18_8
       try clear hfz19_0
       try clear hfz19_1
       try clear hfz19_2
       try clear hfz19_3
       try clear hfz19_4
       try clear hfz19_5
       try clear hfz19_6
       try clear hfz19_7
       try clear hfz19_8
       try clear hfz22_0
       try clear hfz22_1
       try clear hfz22_2
       try clear hfz22_3
       try clear hfz22_4
       try clear hfz22_5
       try clear hfz22_6
       try clear hfz22_7
       try clear hfz22_8
       try clear hfz23_0
       try clear hfz23_1
       try clear hfz23_2
       try clear hfz23_3
       try clear hfz23_4
       try clear hfz23_5
       try clear hfz23_6
       try clear hfz23_7
       try clear hfz23_8
       try clear hfz5_0
       try clear hfz5_1
       try clear hfz5_2
       try clear hfz5_3
       try clear hfz5_4
       try clear hfz5_5
       try clear hfz5_6
       try clear hfz5_7
       try clear hfz5_8
       try clear hfz7_0
       try clear hfz7_1
       try clear hfz7_2
       try clear hfz7_3
       try clear hfz7_4
       try clear hfz7_5
       try clear hfz7_6
       try clear hfz7_7
       try clear hfz7_8
       try clear hfz9_0
       try clear hfz9_1
       try clear hfz9_2
       try clear hfz9_3
       try clear hfz9_4
       try clear hfz9_5
       try clear hfz9_6
       try clear hfz9_7
       try clear hfz9_8
       try clear p2
       obtain ⟨kq, x4_19, rfl, HA, HJ19, BK147, HB⟩ := hcut
       cases kq with
       | zero => exact absurd HA.out (by simp [spec_GoodChange.j2])
       | succ kj19 =>
        have H := HA.out
        clear HA
        simp only [spec_GoodChange.j2] at H
        by_cases c24 : a0_2 = 1
        ·rw [if_pos c24] at H
         have c24b0 : (a0_2 == 1) = true := beq_iff_eq.mpr c24
         have c24b1 : (a0_2 != 1) = false := bne_eq_false_iff_eq.mpr c24
         clear c24
         by_cases c25 : x4_19 = true
         ·subst c25
          have H1 : (if a0_4 ≥ 0 then (if a0_4 ≤ 1000 then ((spec_GoodName.f kj19 a0_5).bind fun t148 => (if t148 = true then (if (a0_6.size : Int) ≥ 1 then (if (a0_6.size : Int) ≤ 50 then ((spec_l1Printed.f kj19 a0_6).bind fun t149 => (if t149 = true then ((spec_l4Tilde.f kj19 a0_6).bind fun t150 => (some (!t150))) else (some false))) else (some false)) else (some false)) else (some false))) else (some false)) else (some false)) = some r := by rw [if_pos rfl] at H; exact H
          clear H
          have H := H1
          clear H1
          by_cases c26 : a0_4 ≥ 0
          ·rw [if_pos c26] at H
           have c26b0 : decide (0 ≤ a0_4) = true := decide_eq_true c26
           clear c26
           by_cases c27 : a0_4 ≤ 1000
           ·rw [if_pos c27] at H
            have c27b0 : decide (a0_4 ≤ 1000) = true := decide_eq_true c27
            clear c27
            replace H := Option.bind_eq_some_iff.mp H
            obtain ⟨t148, A280, H⟩ := H
            replace H : (if t148 = true then (if (a0_6.size : Int) ≥ 1 then (if (a0_6.size : Int) ≤ 50 then ((spec_l1Printed.f kj19 a0_6).bind fun t149 => (if t149 = true then ((spec_l4Tilde.f kj19 a0_6).bind fun t150 => (some (!t150))) else (some false))) else (some false)) else (some false)) else (some false)) = some r := H
            have A28 := Aside0.mk A280
            clear A280
            by_cases c29 : t148 = true
            ·subst c29
             have H1 : (if (a0_6.size : Int) ≥ 1 then (if (a0_6.size : Int) ≤ 50 then ((spec_l1Printed.f kj19 a0_6).bind fun t149 => (if t149 = true then ((spec_l4Tilde.f kj19 a0_6).bind fun t150 => (some (!t150))) else (some false))) else (some false)) else (some false)) = some r := by rw [if_pos rfl] at H; exact H
             clear H
             have H := H1
             clear H1
             by_cases c30 : (a0_6.size : Int) ≥ 1
             ·rw [if_pos c30] at H
              have c30b0 : decide (1 ≤ (a0_6.size : Int)) = true := decide_eq_true c30
              have c30b1 : decide (1 ≤ a0_6.size) = true := decide_eq_true (by omega)
              clear c30
              by_cases c31 : (a0_6.size : Int) ≤ 50
              ·rw [if_pos c31] at H
               have c31b0 : decide ((a0_6.size : Int) ≤ 50) = true := decide_eq_true c31
               have c31b1 : decide (a0_6.size ≤ 50) = true := decide_eq_true (by omega)
               clear c31
               replace H := Option.bind_eq_some_iff.mp H
               obtain ⟨t149, A320, H⟩ := H
               replace H : (if t149 = true then ((spec_l4Tilde.f kj19 a0_6).bind fun t150 => (some (!t150))) else (some false)) = some r := H
               have A32 := Aside0.mk A320
               clear A320
               by_cases c33 : t149 = true
               ·subst c33
                have H1 : ((spec_l4Tilde.f kj19 a0_6).bind fun t150 => (some (!t150))) = some r := by rw [if_pos rfl] at H; exact H
                clear H
                have H := H1
                clear H1
                replace H := Option.bind_eq_some_iff.mp H
                obtain ⟨t150, A340, H⟩ := H
                replace H : (some (!t150)) = some r := H
                have A34 := Aside0.mk A340
                clear A340
                obtain rfl := Option.some.inj H
                have hcz35_0 : wc.cell? ⟨gb147, 0, none⟩ = some (.int .i64 a0_0) := (blk_cell BK147.out 0).trans rfl
                have hcz35_1 : wc.cell? ⟨gb147, 1, none⟩ = some (.int .i64 a0_1) := (blk_cell BK147.out 1).trans rfl
                have hcz35_2 : wc.cell? ⟨gb147, 2, none⟩ = some (.int .i64 a0_2) := (blk_cell BK147.out 2).trans rfl
                have hcz35_3 : wc.cell? ⟨gb147, 3, none⟩ = some (.int .i64 a0_3) := (blk_cell BK147.out 3).trans rfl
                have hcz35_4 : wc.cell? ⟨gb147, 4, none⟩ = some (.int .i64 a0_4) := (blk_cell BK147.out 4).trans rfl
                have hcz35_5 : wc.cell? ⟨gb147, 5, none⟩ = some (.string a0_5) := (blk_cell BK147.out 5).trans rfl
                have hcz35_6 : wc.cell? ⟨gb147, 6, none⟩ = some (.string a0_6) := (blk_cell BK147.out 6).trans rfl
                have hcz35_7 : wc.cell? ⟨gb147, 7, none⟩ = some (.string a0_7) := (blk_cell BK147.out 7).trans rfl
                have hcz35_8 : wc.cell? ⟨gb147, 8, none⟩ = some (.string a0_8) := (blk_cell BK147.out 8).trans rfl
                have hfz35_0 := blk_frozen BK147.out 0
                have hfz35_1 := blk_frozen BK147.out 1
                have hfz35_2 := blk_frozen BK147.out 2
                have hfz35_3 := blk_frozen BK147.out 3
                have hfz35_4 := blk_frozen BK147.out 4
                have hfz35_5 := blk_frozen BK147.out 5
                have hfz35_6 := blk_frozen BK147.out 6
                have hfz35_7 := blk_frozen BK147.out 7
                have hfz35_8 := blk_frozen BK147.out 8
                go_wp2_with (first | (go_at_call 52; (with_reducible refine (spec_GoodName.calls kj19 a0_5 true _ A28.out).mono ?_); rintro e w' ⟨rfl, ⟨nd, rfl⟩⟩) | (go_at_call 128; (with_reducible refine (spec_l1Printed.calls kj19 a0_6 true _ A32.out).mono ?_); rintro e w' ⟨rfl, ⟨nd, rfl⟩⟩) | (go_at_call 129; (with_reducible refine (spec_l4Tilde.calls kj19 a0_6 t150 _ A34.out).mono ?_); rintro e w' ⟨rfl, ⟨nd, rfl⟩⟩))
                go_ret
                exact ⟨by first | rfl | (simp [errW_none, errW_some] <;> rfl) | (simp [*, errW_none, errW_some] <;> rfl), by repeat (first | (with_reducible first | exact HB.out | apply below_alloc | apply pw_below_drewN | apply below_drew1 | refine below_set ?_ GE147.out) | exact HB.out)⟩
               ·replace c33 := Bool.eq_false_iff.mpr c33
                subst c33
                have H1 : (some false) = some r := by rw [if_neg (show ¬ (false = true) by decide)] at H; exact H
                clear H
                have H := H1
                clear H1
                obtain rfl := Option.some.inj H
                have hcz36_0 : wc.cell? ⟨gb147, 0, none⟩ = some (.int .i64 a0_0) := (blk_cell BK147.out 0).trans rfl
                have hcz36_1 : wc.cell? ⟨gb147, 1, none⟩ = some (.int .i64 a0_1) := (blk_cell BK147.out 1).trans rfl
                have hcz36_2 : wc.cell? ⟨gb147, 2, none⟩ = some (.int .i64 a0_2) := (blk_cell BK147.out 2).trans rfl
                have hcz36_3 : wc.cell? ⟨gb147, 3, none⟩ = some (.int .i64 a0_3) := (blk_cell BK147.out 3).trans rfl
                have hcz36_4 : wc.cell? ⟨gb147, 4, none⟩ = some (.int .i64 a0_4) := (blk_cell BK147.out 4).trans rfl
                have hcz36_5 : wc.cell? ⟨gb147, 5, none⟩ = some (.string a0_5) := (blk_cell BK147.out 5).trans rfl
                have hcz36_6 : wc.cell? ⟨gb147, 6, none⟩ = some (.string a0_6) := (blk_cell BK147.out 6).trans rfl
                have hcz36_7 : wc.cell? ⟨gb147, 7, none⟩ = some (.string a0_7) := (blk_cell BK147.out 7).trans rfl
                have hcz36_8 : wc.cell? ⟨gb147, 8, none⟩ = some (.string a0_8) := (blk_cell BK147.out 8).trans rfl
                have hfz36_0 := blk_frozen BK147.out 0
                have hfz36_1 := blk_frozen BK147.out 1
                have hfz36_2 := blk_frozen BK147.out 2
                have hfz36_3 := blk_frozen BK147.out 3
                have hfz36_4 := blk_frozen BK147.out 4
                have hfz36_5 := blk_frozen BK147.out 5
                have hfz36_6 := blk_frozen BK147.out 6
                have hfz36_7 := blk_frozen BK147.out 7
                have hfz36_8 := blk_frozen BK147.out 8
                go_wp2_with (first | (go_at_call 52; (with_reducible refine (spec_GoodName.calls kj19 a0_5 true _ A28.out).mono ?_); rintro e w' ⟨rfl, ⟨nd, rfl⟩⟩) | (go_at_call 128; (with_reducible refine (spec_l1Printed.calls kj19 a0_6 false _ A32.out).mono ?_); rintro e w' ⟨rfl, ⟨nd, rfl⟩⟩))
                go_ret
                exact ⟨by first | rfl | (simp [errW_none, errW_some] <;> rfl) | (simp [*, errW_none, errW_some] <;> rfl), by repeat (first | (with_reducible first | exact HB.out | apply below_alloc | apply pw_below_drewN | apply below_drew1 | refine below_set ?_ GE147.out) | exact HB.out)⟩
              ·rw [if_neg c31] at H
               have c31b0 : decide ((a0_6.size : Int) ≤ 50) = false := decide_eq_false c31
               have c31b1 : decide (a0_6.size ≤ 50) = false := decide_eq_false (by omega)
               clear c31
               obtain rfl := Option.some.inj H
               have hcz37_0 : wc.cell? ⟨gb147, 0, none⟩ = some (.int .i64 a0_0) := (blk_cell BK147.out 0).trans rfl
               have hcz37_1 : wc.cell? ⟨gb147, 1, none⟩ = some (.int .i64 a0_1) := (blk_cell BK147.out 1).trans rfl
               have hcz37_2 : wc.cell? ⟨gb147, 2, none⟩ = some (.int .i64 a0_2) := (blk_cell BK147.out 2).trans rfl
               have hcz37_3 : wc.cell? ⟨gb147, 3, none⟩ = some (.int .i64 a0_3) := (blk_cell BK147.out 3).trans rfl
               have hcz37_4 : wc.cell? ⟨gb147, 4, none⟩ = some (.int .i64 a0_4) := (blk_cell BK147.out 4).trans rfl
               have hcz37_5 : wc.cell? ⟨gb147, 5, none⟩ = some (.string a0_5) := (blk_cell BK147.out 5).trans rfl
               have hcz37_6 : wc.cell? ⟨gb147, 6, none⟩ = some (.string a0_6) := (blk_cell BK147.out 6).trans rfl
               have hcz37_7 : wc.cell? ⟨gb147, 7, none⟩ = some (.string a0_7) := (blk_cell BK147.out 7).trans rfl
               have hcz37_8 : wc.cell? ⟨gb147, 8, none⟩ = some (.string a0_8) := (blk_cell BK147.out 8).trans rfl
               have hfz37_0 := blk_frozen BK147.out 0
               have hfz37_1 := blk_frozen BK147.out 1
               have hfz37_2 := blk_frozen BK147.out 2
               have hfz37_3 := blk_frozen BK147.out 3
               have hfz37_4 := blk_frozen BK147.out 4
               have hfz37_5 := blk_frozen BK147.out 5
               have hfz37_6 := blk_frozen BK147.out 6
               have hfz37_7 := blk_frozen BK147.out 7
               have hfz37_8 := blk_frozen BK147.out 8
               go_wp2_with (first | (go_at_call 52; (with_reducible refine (spec_GoodName.calls kj19 a0_5 true _ A28.out).mono ?_); rintro e w' ⟨rfl, ⟨nd, rfl⟩⟩))
               go_ret
               exact ⟨by first | rfl | (simp [errW_none, errW_some] <;> rfl) | (simp [*, errW_none, errW_some] <;> rfl), by repeat (first | (with_reducible first | exact HB.out | apply below_alloc | apply pw_below_drewN | apply below_drew1 | refine below_set ?_ GE147.out) | exact HB.out)⟩
             ·rw [if_neg c30] at H
              have c30b0 : decide (1 ≤ (a0_6.size : Int)) = false := decide_eq_false c30
              have c30b1 : decide (1 ≤ a0_6.size) = false := decide_eq_false (by omega)
              clear c30
              obtain rfl := Option.some.inj H
              have hcz38_0 : wc.cell? ⟨gb147, 0, none⟩ = some (.int .i64 a0_0) := (blk_cell BK147.out 0).trans rfl
              have hcz38_1 : wc.cell? ⟨gb147, 1, none⟩ = some (.int .i64 a0_1) := (blk_cell BK147.out 1).trans rfl
              have hcz38_2 : wc.cell? ⟨gb147, 2, none⟩ = some (.int .i64 a0_2) := (blk_cell BK147.out 2).trans rfl
              have hcz38_3 : wc.cell? ⟨gb147, 3, none⟩ = some (.int .i64 a0_3) := (blk_cell BK147.out 3).trans rfl
              have hcz38_4 : wc.cell? ⟨gb147, 4, none⟩ = some (.int .i64 a0_4) := (blk_cell BK147.out 4).trans rfl
              have hcz38_5 : wc.cell? ⟨gb147, 5, none⟩ = some (.string a0_5) := (blk_cell BK147.out 5).trans rfl
              have hcz38_6 : wc.cell? ⟨gb147, 6, none⟩ = some (.string a0_6) := (blk_cell BK147.out 6).trans rfl
              have hcz38_7 : wc.cell? ⟨gb147, 7, none⟩ = some (.string a0_7) := (blk_cell BK147.out 7).trans rfl
              have hcz38_8 : wc.cell? ⟨gb147, 8, none⟩ = some (.string a0_8) := (blk_cell BK147.out 8).trans rfl
              have hfz38_0 := blk_frozen BK147.out 0
              have hfz38_1 := blk_frozen BK147.out 1
              have hfz38_2 := blk_frozen BK147.out 2
              have hfz38_3 := blk_frozen BK147.out 3
              have hfz38_4 := blk_frozen BK147.out 4
              have hfz38_5 := blk_frozen BK147.out 5
              have hfz38_6 := blk_frozen BK147.out 6
              have hfz38_7 := blk_frozen BK147.out 7
              have hfz38_8 := blk_frozen BK147.out 8
              go_wp2_with (first | (go_at_call 52; (with_reducible refine (spec_GoodName.calls kj19 a0_5 true _ A28.out).mono ?_); rintro e w' ⟨rfl, ⟨nd, rfl⟩⟩))
              go_ret
              exact ⟨by first | rfl | (simp [errW_none, errW_some] <;> rfl) | (simp [*, errW_none, errW_some] <;> rfl), by repeat (first | (with_reducible first | exact HB.out | apply below_alloc | apply pw_below_drewN | apply below_drew1 | refine below_set ?_ GE147.out) | exact HB.out)⟩
            ·replace c29 := Bool.eq_false_iff.mpr c29
             subst c29
             have H1 : (some false) = some r := by rw [if_neg (show ¬ (false = true) by decide)] at H; exact H
             clear H
             have H := H1
             clear H1
             obtain rfl := Option.some.inj H
             have hcz39_0 : wc.cell? ⟨gb147, 0, none⟩ = some (.int .i64 a0_0) := (blk_cell BK147.out 0).trans rfl
             have hcz39_1 : wc.cell? ⟨gb147, 1, none⟩ = some (.int .i64 a0_1) := (blk_cell BK147.out 1).trans rfl
             have hcz39_2 : wc.cell? ⟨gb147, 2, none⟩ = some (.int .i64 a0_2) := (blk_cell BK147.out 2).trans rfl
             have hcz39_3 : wc.cell? ⟨gb147, 3, none⟩ = some (.int .i64 a0_3) := (blk_cell BK147.out 3).trans rfl
             have hcz39_4 : wc.cell? ⟨gb147, 4, none⟩ = some (.int .i64 a0_4) := (blk_cell BK147.out 4).trans rfl
             have hcz39_5 : wc.cell? ⟨gb147, 5, none⟩ = some (.string a0_5) := (blk_cell BK147.out 5).trans rfl
             have hcz39_6 : wc.cell? ⟨gb147, 6, none⟩ = some (.string a0_6) := (blk_cell BK147.out 6).trans rfl
             have hcz39_7 : wc.cell? ⟨gb147, 7, none⟩ = some (.string a0_7) := (blk_cell BK147.out 7).trans rfl
             have hcz39_8 : wc.cell? ⟨gb147, 8, none⟩ = some (.string a0_8) := (blk_cell BK147.out 8).trans rfl
             have hfz39_0 := blk_frozen BK147.out 0
             have hfz39_1 := blk_frozen BK147.out 1
             have hfz39_2 := blk_frozen BK147.out 2
             have hfz39_3 := blk_frozen BK147.out 3
             have hfz39_4 := blk_frozen BK147.out 4
             have hfz39_5 := blk_frozen BK147.out 5
             have hfz39_6 := blk_frozen BK147.out 6
             have hfz39_7 := blk_frozen BK147.out 7
             have hfz39_8 := blk_frozen BK147.out 8
             go_wp2_with (first | (go_at_call 52; (with_reducible refine (spec_GoodName.calls kj19 a0_5 false _ A28.out).mono ?_); rintro e w' ⟨rfl, ⟨nd, rfl⟩⟩))
             go_ret
             exact ⟨by first | rfl | (simp [errW_none, errW_some] <;> rfl) | (simp [*, errW_none, errW_some] <;> rfl), by repeat (first | (with_reducible first | exact HB.out | apply below_alloc | apply pw_below_drewN | apply below_drew1 | refine below_set ?_ GE147.out) | exact HB.out)⟩
           ·rw [if_neg c27] at H
            have c27b0 : decide (a0_4 ≤ 1000) = false := decide_eq_false c27
            clear c27
            obtain rfl := Option.some.inj H
            have hcz40_0 : wc.cell? ⟨gb147, 0, none⟩ = some (.int .i64 a0_0) := (blk_cell BK147.out 0).trans rfl
            have hcz40_1 : wc.cell? ⟨gb147, 1, none⟩ = some (.int .i64 a0_1) := (blk_cell BK147.out 1).trans rfl
            have hcz40_2 : wc.cell? ⟨gb147, 2, none⟩ = some (.int .i64 a0_2) := (blk_cell BK147.out 2).trans rfl
            have hcz40_3 : wc.cell? ⟨gb147, 3, none⟩ = some (.int .i64 a0_3) := (blk_cell BK147.out 3).trans rfl
            have hcz40_4 : wc.cell? ⟨gb147, 4, none⟩ = some (.int .i64 a0_4) := (blk_cell BK147.out 4).trans rfl
            have hcz40_5 : wc.cell? ⟨gb147, 5, none⟩ = some (.string a0_5) := (blk_cell BK147.out 5).trans rfl
            have hcz40_6 : wc.cell? ⟨gb147, 6, none⟩ = some (.string a0_6) := (blk_cell BK147.out 6).trans rfl
            have hcz40_7 : wc.cell? ⟨gb147, 7, none⟩ = some (.string a0_7) := (blk_cell BK147.out 7).trans rfl
            have hcz40_8 : wc.cell? ⟨gb147, 8, none⟩ = some (.string a0_8) := (blk_cell BK147.out 8).trans rfl
            have hfz40_0 := blk_frozen BK147.out 0
            have hfz40_1 := blk_frozen BK147.out 1
            have hfz40_2 := blk_frozen BK147.out 2
            have hfz40_3 := blk_frozen BK147.out 3
            have hfz40_4 := blk_frozen BK147.out 4
            have hfz40_5 := blk_frozen BK147.out 5
            have hfz40_6 := blk_frozen BK147.out 6
            have hfz40_7 := blk_frozen BK147.out 7
            have hfz40_8 := blk_frozen BK147.out 8
            go_wp2
            go_ret
            exact ⟨by first | rfl | (simp [errW_none, errW_some] <;> rfl) | (simp [*, errW_none, errW_some] <;> rfl), by repeat (first | (with_reducible first | exact HB.out | apply below_alloc | apply pw_below_drewN | apply below_drew1 | refine below_set ?_ GE147.out) | exact HB.out)⟩
          ·rw [if_neg c26] at H
           have c26b0 : decide (0 ≤ a0_4) = false := decide_eq_false c26
           clear c26
           obtain rfl := Option.some.inj H
           have hcz41_0 : wc.cell? ⟨gb147, 0, none⟩ = some (.int .i64 a0_0) := (blk_cell BK147.out 0).trans rfl
           have hcz41_1 : wc.cell? ⟨gb147, 1, none⟩ = some (.int .i64 a0_1) := (blk_cell BK147.out 1).trans rfl
           have hcz41_2 : wc.cell? ⟨gb147, 2, none⟩ = some (.int .i64 a0_2) := (blk_cell BK147.out 2).trans rfl
           have hcz41_3 : wc.cell? ⟨gb147, 3, none⟩ = some (.int .i64 a0_3) := (blk_cell BK147.out 3).trans rfl
           have hcz41_4 : wc.cell? ⟨gb147, 4, none⟩ = some (.int .i64 a0_4) := (blk_cell BK147.out 4).trans rfl
           have hcz41_5 : wc.cell? ⟨gb147, 5, none⟩ = some (.string a0_5) := (blk_cell BK147.out 5).trans rfl
           have hcz41_6 : wc.cell? ⟨gb147, 6, none⟩ = some (.string a0_6) := (blk_cell BK147.out 6).trans rfl
           have hcz41_7 : wc.cell? ⟨gb147, 7, none⟩ = some (.string a0_7) := (blk_cell BK147.out 7).trans rfl
           have hcz41_8 : wc.cell? ⟨gb147, 8, none⟩ = some (.string a0_8) := (blk_cell BK147.out 8).trans rfl
           have hfz41_0 := blk_frozen BK147.out 0
           have hfz41_1 := blk_frozen BK147.out 1
           have hfz41_2 := blk_frozen BK147.out 2
           have hfz41_3 := blk_frozen BK147.out 3
           have hfz41_4 := blk_frozen BK147.out 4
           have hfz41_5 := blk_frozen BK147.out 5
           have hfz41_6 := blk_frozen BK147.out 6
           have hfz41_7 := blk_frozen BK147.out 7
           have hfz41_8 := blk_frozen BK147.out 8
           go_wp2
           go_ret
           exact ⟨by first | rfl | (simp [errW_none, errW_some] <;> rfl) | (simp [*, errW_none, errW_some] <;> rfl), by repeat (first | (with_reducible first | exact HB.out | apply below_alloc | apply pw_below_drewN | apply below_drew1 | refine below_set ?_ GE147.out) | exact HB.out)⟩
         ·replace c25 := Bool.eq_false_iff.mpr c25
          subst c25
          have H1 : (some false) = some r := by rw [if_neg (show ¬ (false = true) by decide)] at H; exact H
          clear H
          have H := H1
          clear H1
          obtain rfl := Option.some.inj H
          have hcz42_0 : wc.cell? ⟨gb147, 0, none⟩ = some (.int .i64 a0_0) := (blk_cell BK147.out 0).trans rfl
          have hcz42_1 : wc.cell? ⟨gb147, 1, none⟩ = some (.int .i64 a0_1) := (blk_cell BK147.out 1).trans rfl
          have hcz42_2 : wc.cell? ⟨gb147, 2, none⟩ = some (.int .i64 a0_2) := (blk_cell BK147.out 2).trans rfl
          have hcz42_3 : wc.cell? ⟨gb147, 3, none⟩ = some (.int .i64 a0_3) := (blk_cell BK147.out 3).trans rfl
          have hcz42_4 : wc.cell? ⟨gb147, 4, none⟩ = some (.int .i64 a0_4) := (blk_cell BK147.out 4).trans rfl
          have hcz42_5 : wc.cell? ⟨gb147, 5, none⟩ = some (.string a0_5) := (blk_cell BK147.out 5).trans rfl
          have hcz42_6 : wc.cell? ⟨gb147, 6, none⟩ = some (.string a0_6) := (blk_cell BK147.out 6).trans rfl
          have hcz42_7 : wc.cell? ⟨gb147, 7, none⟩ = some (.string a0_7) := (blk_cell BK147.out 7).trans rfl
          have hcz42_8 : wc.cell? ⟨gb147, 8, none⟩ = some (.string a0_8) := (blk_cell BK147.out 8).trans rfl
          have hfz42_0 := blk_frozen BK147.out 0
          have hfz42_1 := blk_frozen BK147.out 1
          have hfz42_2 := blk_frozen BK147.out 2
          have hfz42_3 := blk_frozen BK147.out 3
          have hfz42_4 := blk_frozen BK147.out 4
          have hfz42_5 := blk_frozen BK147.out 5
          have hfz42_6 := blk_frozen BK147.out 6
          have hfz42_7 := blk_frozen BK147.out 7
          have hfz42_8 := blk_frozen BK147.out 8
          go_wp2
          go_ret
          exact ⟨by first | rfl | (simp [errW_none, errW_some] <;> rfl) | (simp [*, errW_none, errW_some] <;> rfl), by repeat (first | (with_reducible first | exact HB.out | apply below_alloc | apply pw_below_drewN | apply below_drew1 | refine below_set ?_ GE147.out) | exact HB.out)⟩
        ·rw [if_neg c24] at H
         have c24b0 : (a0_2 == 1) = false := beq_eq_false_iff_ne.mpr c24
         have c24b1 : (a0_2 != 1) = true := bne_iff_ne.mpr c24
         have HC43 := Aside0.mk H
         clear H
         have hcz44_0 : wc.cell? ⟨gb147, 0, none⟩ = some (.int .i64 a0_0) := (blk_cell BK147.out 0).trans rfl
         have hcz44_1 : wc.cell? ⟨gb147, 1, none⟩ = some (.int .i64 a0_1) := (blk_cell BK147.out 1).trans rfl
         have hcz44_2 : wc.cell? ⟨gb147, 2, none⟩ = some (.int .i64 a0_2) := (blk_cell BK147.out 2).trans rfl
         have hcz44_3 : wc.cell? ⟨gb147, 3, none⟩ = some (.int .i64 a0_3) := (blk_cell BK147.out 3).trans rfl
         have hcz44_4 : wc.cell? ⟨gb147, 4, none⟩ = some (.int .i64 a0_4) := (blk_cell BK147.out 4).trans rfl
         have hcz44_5 : wc.cell? ⟨gb147, 5, none⟩ = some (.string a0_5) := (blk_cell BK147.out 5).trans rfl
         have hcz44_6 : wc.cell? ⟨gb147, 6, none⟩ = some (.string a0_6) := (blk_cell BK147.out 6).trans rfl
         have hcz44_7 : wc.cell? ⟨gb147, 7, none⟩ = some (.string a0_7) := (blk_cell BK147.out 7).trans rfl
         have hcz44_8 : wc.cell? ⟨gb147, 8, none⟩ = some (.string a0_8) := (blk_cell BK147.out 8).trans rfl
         have hfz44_0 := blk_frozen BK147.out 0
         have hfz44_1 := blk_frozen BK147.out 1
         have hfz44_2 := blk_frozen BK147.out 2
         have hfz44_3 := blk_frozen BK147.out 3
         have hfz44_4 := blk_frozen BK147.out 4
         have hfz44_5 := blk_frozen BK147.out 5
         have hfz44_6 := blk_frozen BK147.out 6
         have hfz44_7 := blk_frozen BK147.out 7
         have hfz44_8 := blk_frozen BK147.out 8
         go_upto_if 102 with (fail)
         go_cut [102] (fun v102 wc => ∃ (kq : Nat) (x102_42 : Bool), v102 = .bool x102_42 ∧ Aside0 (spec_GoodChange.j3 kq x3_15 x4_19 a0_2 x102_42 a0_0 a0_1 a0_2 a0_3 a0_4 a0_5 a0_6 a0_7 a0_8 = some r) ∧ Aside0 (kq ≤ kj19) ∧ Aside0 (wc.heap[gb147]? = some (.cells #[.int .i64 a0_0, .int .i64 a0_1, .int .i64 a0_2, .int .i64 a0_3, .int .i64 a0_4, .string a0_5, .string a0_6, .string a0_7, .string a0_8] 95 (0, 0))) ∧ Aside0 (Below w.heap.size w wc))
         case first =>
          have H := HC43.out
          clear HC43
          by_cases c45 : a0_2 = 2
          ·rw [if_pos c45] at H
           have c45b0 : (a0_2 == 2) = true := beq_iff_eq.mpr c45
           have c45b1 : (a0_2 != 2) = false := bne_eq_false_iff_eq.mpr c45
           clear c45
           (first | rw [c45b0] | (simp only [i64_w, i32_w]; rw [c45b0]) | skip)
           have H' := Aside0.mk H
           clear H
           go_wp2
           go_meet
           case rel => exact ⟨_, ((a0_2 == 2)), (by first | rfl | (simp; done) | (simp [pw_ne_nil, pw_eq_nil]; done) | (simp [*]; done)), H', ⟨by have := HJ1.out; have := HJ15.out; have := HJ19.out; first | omega | exact Nat.le_refl _⟩, ⟨by (with_reducible repeat (first | refine blk_drewN ?_ _ | refine blk_drew ?_ | refine blk_alloc ?_ _)); exact BK147.out⟩, ⟨by repeat (first | (with_reducible first | exact HB.out | apply below_alloc | apply pw_below_drewN | apply below_drew1 | refine below_set ?_ GE147.out) | exact HB.out)⟩⟩
          ·rw [if_neg c45] at H
           have c45b0 : (a0_2 == 2) = false := beq_eq_false_iff_ne.mpr c45
           have c45b1 : (a0_2 != 2) = true := bne_iff_ne.mpr c45
           (first | rw [c45b0] | (simp only [i64_w, i32_w]; rw [c45b0]) | skip)
           have H' := Aside0.mk H
           clear H
           go_wp2
           go_meet
           case rel => exact ⟨_, ((a0_2 == 3)), (by first | rfl | (simp; done) | (simp [pw_ne_nil, pw_eq_nil]; done) | (simp [*]; done)), H', ⟨by have := HJ1.out; have := HJ15.out; have := HJ19.out; first | omega | exact Nat.le_refl _⟩, ⟨by (with_reducible repeat (first | refine blk_drewN ?_ _ | refine blk_drew ?_ | refine blk_alloc ?_ _)); exact BK147.out⟩, ⟨by repeat (first | (with_reducible first | exact HB.out | apply below_alloc | apply pw_below_drewN | apply below_drew1 | refine below_set ?_ GE147.out) | exact HB.out)⟩⟩
         case rest =>
          clear HC43
          try clear c1
          try clear c2
          try clear p2
          try clear c3
          try clear c4
          try clear c4b0
          try clear c6
          try clear c6b0
          try clear c8
          try clear c8b0
          try clear c9
          try clear c10
          try clear c10b0
          try clear c12
          try clear c12b0
          try clear c15
          try clear c17
          try clear c17b0
          try clear c17b1
          try clear c21
          try clear c21b0
          try clear c21b1
          try clear c24
          try clear c24b0
          try clear c24b1
          try clear c25
          try clear c26
          try clear c26b0
          try clear c27
          try clear c27b0
          try clear c29
          try clear c30
          try clear c30b0
          try clear c30b1
          try clear c31
          try clear c31b0
          try clear c31b1
          try clear c33
          try clear c45
          try clear c45b0
          try clear c45b1
          try clear hcz11_0
          try clear hcz11_1
          try clear hcz11_2
          try clear hcz11_3
          try clear hcz11_4
          try clear hcz11_5
          try clear hcz11_6
          try clear hcz11_7
          try clear hcz11_8
          try clear hcz13_0
          try clear hcz13_1
          try clear hcz13_2
          try clear hcz13_3
          try clear hcz13_4
          try clear hcz13_5
          try clear hcz13_6
          try clear hcz13_7
          try clear hcz13_8
          try clear hcz14_0
          try clear hcz14_1
          try clear hcz14_2
          try clear hcz14_3
          try clear hcz14_4
          try clear hcz14_5
          try clear hcz14_6
          try clear hcz14_7
          try clear hcz14_8
          try clear hcz18_0
          try clear hcz18_1
          try clear hcz18_2
          try clear hcz18_3
          try clear hcz18_4
          try clear hcz18_5
          try clear hcz18_6
          try clear hcz18_7
          try clear hcz18_8
          try clear hcz19_0
          try clear hcz19_1
          try clear hcz19_2
          try clear hcz19_3
          try clear hcz19_4
          try clear hcz19_5
          try clear hcz19_6
          try clear hcz19_7
          try clear hcz19_8
          try clear hcz22_0
          try clear hcz22_1
          try clear hcz22_2
          try clear hcz22_3
          try clear hcz22_4
          try clear hcz22_5
          try clear hcz22_6
          try clear hcz22_7
          try clear hcz22_8
          try clear hcz23_0
          try clear hcz23_1
          try clear hcz23_2
          try clear hcz23_3
          try clear hcz23_4
          try clear hcz23_5
          try clear hcz23_6
          try clear hcz23_7
          try clear hcz23_8
          try clear hcz35_0
          try clear hcz35_1
          try clear hcz35_2
          try clear hcz35_3
          try clear hcz35_4
          try clear hcz35_5
          try clear hcz35_6
          try clear hcz35_7
          try clear hcz35_8
          try clear hcz36_0
          try clear hcz36_1
          try clear hcz36_2
          try clear hcz36_3
          try clear hcz36_4
          try clear hcz36_5
          try clear hcz36_6
          try clear hcz36_7
          try clear hcz36_8
          try clear hcz37_0
          try clear hcz37_1
          try clear hcz37_2
          try clear hcz37_3
          try clear hcz37_4
          try clear hcz37_5
          try clear hcz37_6
          try clear hcz37_7
          try clear hcz37_8
          try clear hcz38_0
          try clear hcz38_1
          try clear hcz38_2
          try clear hcz38_3
          try clear hcz38_4
          try clear hcz38_5
          try clear hcz38_6
          try clear hcz38_7
          try clear hcz38_8
          try clear hcz39_0
          try clear hcz39_1
          try clear hcz39_2
          try clear hcz39_3
          try clear hcz39_4
          try clear hcz39_5
          try clear hcz39_6
          try clear hcz39_7
          try clear hcz39_8
          try clear hcz40_0
          try clear hcz40_1
          try clear hcz40_2
          try clear hcz40_3
          try clear hcz40_4
          try clear hcz40_5
          try clear hcz40_6
          try clear hcz40_7
          try clear hcz40_8
          try clear hcz41_0
          try clear hcz41_1
          try clear hcz41_2
          try clear hcz41_3
          try clear hcz41_4
          try clear hcz41_5
          try clear hcz41_6
          try clear hcz41_7
          try clear hcz41_8
          try clear hcz42_0
          try clear hcz42_1
          try clear hcz42_2
          try clear hcz42_3
          try clear hcz42_4
          try clear hcz42_5
          try clear hcz42_6
          try clear hcz42_7
          try clear hcz42_8
          try clear hcz44_0
          try clear hcz44_1
          try clear hcz44_2
          try clear hcz44_3
          try clear hcz44_4
          try clear hcz44_5
          try clear hcz44_6
          try clear hcz44_7
          try clear hcz44_8
          try clear hcz5_0
          try clear hcz5_1
          try clear hcz5_2
          try clear hcz5_3
          try clear hcz5_4
          try clear hcz5_5
          try clear hcz5_6
          try clear hcz5_7
          try clear hcz5_8
          try clear hcz7_0
          try clear hcz7_1
          try clear hcz7_2
          try clear hcz7_3
          try clear hcz7_4
          try clear hcz7_5
          try clear hcz7_6
          try clear hcz7_7
          try clear hcz7_8
          try clear hcz9_0
          try clear hcz9_1
          try clear hcz9_2
          try clear hcz9_3
          try clear hcz9_4
          try clear hcz9_5
          try clear hcz9_6
          try clear hcz9_7
          try clear hcz9_8
          try clear hfz11_0
          try clear hfz11_1
          try clear hfz11_2
          try clear hfz11_3
          try clear hfz11_4
          try clear hfz11_5
          try clear hfz11_6
          try clear hfz11_7
          try clear hfz11_8
          try clear hfz13_0
          try clear hfz13_1
          try clear hfz13_2
          try clear hfz13_3
          try clear hfz13_4
          try clear hfz13_5
          try clear hfz13_6
          try clear hfz13_7
          try clear hfz13_8
          try clear hfz14_0
          try clear hfz14_1
          try clear hfz14_2
          try clear hfz14_3
          try clear hfz14_4
          try clear hfz14_5
          try clear hfz14_6
          try clear hfz14_7
          try clear hfz14_8
          try clear hfz18_0
          try clear hfz18_1
          try clear hfz18_2
          try clear hfz18_3
          try clear hfz18_4
          try clear hfz18_5
          try clear hfz18_6
          try clear hfz18_7
          try clear hfz18_8
          try clear hfz19_0
          try clear hfz19_1
          try clear hfz19_2
          try clear hfz19_3
          try clear hfz19_4
          try clear hfz19_5
          try clear hfz19_6
          try clear hfz19_7
          try clear hfz19_8
          try clear hfz22_0
          try clear hfz22_1
          try clear hfz22_2
          try clear hfz22_3
          try clear hfz22_4
          try clear hfz22_5
          try clear hfz22_6
          try clear hfz22_7
          try clear hfz22_8
          try clear hfz23_0
          try clear hfz23_1
          try clear hfz23_2
          try clear hfz23_3
          try clear hfz23_4
          try clear hfz23_5
          try clear hfz23_6
          try clear hfz23_7
          try clear hfz23_8
          try clear hfz35_0
          try clear hfz35_1
          try clear hfz35_2
          try clear hfz35_3
          try clear hfz35_4
          try clear hfz35_5
          try clear hfz35_6
          try clear hfz35_7
          try clear hfz35_8
          try clear hfz36_0
          try clear hfz36_1
          try clear hfz36_2
          try clear hfz36_3
          try clear hfz36_4
          try clear hfz36_5
          try clear hfz36_6
          try clear hfz36_7
          try clear hfz36_8
          try clear hfz37_0
          try clear hfz37_1
          try clear hfz37_2
          try clear hfz37_3
          try clear hfz37_4
          try clear hfz37_5
          try clear hfz37_6
          try clear hfz37_7
          try clear hfz37_8
          try clear hfz38_0
          try clear hfz38_1
          try clear hfz38_2
          try clear hfz38_3
          try clear hfz38_4
          try clear hfz38_5
          try clear hfz38_6
          try clear hfz38_7
          try clear hfz38_8
          try clear hfz39_0
          try clear hfz39_1
          try clear hfz39_2
          try clear hfz39_3
          try clear hfz39_4
          try clear hfz39_5
          try clear hfz39_6
          try clear hfz39_7
          try clear hfz39_8
          try clear hfz40_0
          try clear hfz40_1
          try clear hfz40_2
          try clear hfz40_3
          try clear hfz40_4
          try clear hfz40_5
          try clear hfz40_6
          try clear hfz40_7
          try clear hfz40_8
          try clear hfz41_0
          try clear hfz41_1
          try clear hfz41_2
          try clear hfz41_3
          try clear hfz41_4
          try clear hfz41_5
          try clear hfz41_6
          try clear hfz41_7
          try clear hfz41_8
          try clear hfz42_0
          try clear hfz42_1
          try clear hfz42_2
          try clear hfz42_3
          try clear hfz42_4
          try clear hfz42_5
          try clear hfz42_6
          try clear hfz42_7
          try clear hfz42_8
          try clear hfz44_0
          try clear hfz44_1
          try clear hfz44_2
          try clear hfz44_3
          try clear hfz44_4
          try clear hfz44_5
          try clear hfz44_6
          try clear hfz44_7
          try clear hfz44_8
          try clear hfz5_0
          try clear hfz5_1
          try clear hfz5_2
          try clear hfz5_3
          try clear hfz5_4
          try clear hfz5_5
          try clear hfz5_6
          try clear hfz5_7
          try clear hfz5_8
          try clear hfz7_0
          try clear hfz7_1
          try clear hfz7_2
          try clear hfz7_3
          try clear hfz7_4
          try clear hfz7_5
          try clear hfz7_6
          try clear hfz7_7
          try clear hfz7_8
          try clear hfz9_0
          try clear hfz9_1
          try clear hfz9_2
          try clear hfz9_3
          try clear hfz9_4
          try clear hfz9_5
          try clear hfz9_6
          try clear hfz9_7
          try clear hfz9_8
          try clear p2
          obtain ⟨kq, x102_42, rfl, HA, HJ42, BK147, HB⟩ := hcut
          cases kq with
          | zero => exact absurd HA.out (by simp [spec_GoodChange.j3])
          | succ kj42 =>
           have H := HA.out
           clear HA
           simp only [spec_GoodChange.j3] at H
           by_cases c46 : x102_42 = true
           ·subst c46
            have H1 : (if x3_15 = true then ((spec_GoodName.f kj42 a0_7).bind fun t151 => (if t151 = true then (if (a0_8.size : Int) ≥ 1 then (if (a0_8.size : Int) ≤ 200 then ((spec_l1Printed.f kj42 a0_8).bind fun t152 => (some t152)) else (some false)) else (some false)) else (some false))) else (some false)) = some r := by rw [if_pos rfl] at H; exact H
            clear H
            have H := H1
            clear H1
            by_cases c47 : x3_15 = true
            ·subst c47
             have H1 : ((spec_GoodName.f kj42 a0_7).bind fun t151 => (if t151 = true then (if (a0_8.size : Int) ≥ 1 then (if (a0_8.size : Int) ≤ 200 then ((spec_l1Printed.f kj42 a0_8).bind fun t152 => (some t152)) else (some false)) else (some false)) else (some false))) = some r := by rw [if_pos rfl] at H; exact H
             clear H
             have H := H1
             clear H1
             replace H := Option.bind_eq_some_iff.mp H
             obtain ⟨t151, A480, H⟩ := H
             replace H : (if t151 = true then (if (a0_8.size : Int) ≥ 1 then (if (a0_8.size : Int) ≤ 200 then ((spec_l1Printed.f kj42 a0_8).bind fun t152 => (some t152)) else (some false)) else (some false)) else (some false)) = some r := H
             have A48 := Aside0.mk A480
             clear A480
             by_cases c49 : t151 = true
             ·subst c49
              have H1 : (if (a0_8.size : Int) ≥ 1 then (if (a0_8.size : Int) ≤ 200 then ((spec_l1Printed.f kj42 a0_8).bind fun t152 => (some t152)) else (some false)) else (some false)) = some r := by rw [if_pos rfl] at H; exact H
              clear H
              have H := H1
              clear H1
              by_cases c50 : (a0_8.size : Int) ≥ 1
              ·rw [if_pos c50] at H
               have c50b0 : decide (1 ≤ (a0_8.size : Int)) = true := decide_eq_true c50
               have c50b1 : decide (1 ≤ a0_8.size) = true := decide_eq_true (by omega)
               clear c50
               by_cases c51 : (a0_8.size : Int) ≤ 200
               ·rw [if_pos c51] at H
                have c51b0 : decide ((a0_8.size : Int) ≤ 200) = true := decide_eq_true c51
                have c51b1 : decide (a0_8.size ≤ 200) = true := decide_eq_true (by omega)
                clear c51
                replace H := Option.bind_eq_some_iff.mp H
                obtain ⟨t152, A520, H⟩ := H
                replace H : (some t152) = some r := H
                have A52 := Aside0.mk A520
                clear A520
                obtain rfl := Option.some.inj H
                have hcz53_0 : wc.cell? ⟨gb147, 0, none⟩ = some (.int .i64 a0_0) := (blk_cell BK147.out 0).trans rfl
                have hcz53_1 : wc.cell? ⟨gb147, 1, none⟩ = some (.int .i64 a0_1) := (blk_cell BK147.out 1).trans rfl
                have hcz53_2 : wc.cell? ⟨gb147, 2, none⟩ = some (.int .i64 a0_2) := (blk_cell BK147.out 2).trans rfl
                have hcz53_3 : wc.cell? ⟨gb147, 3, none⟩ = some (.int .i64 a0_3) := (blk_cell BK147.out 3).trans rfl
                have hcz53_4 : wc.cell? ⟨gb147, 4, none⟩ = some (.int .i64 a0_4) := (blk_cell BK147.out 4).trans rfl
                have hcz53_5 : wc.cell? ⟨gb147, 5, none⟩ = some (.string a0_5) := (blk_cell BK147.out 5).trans rfl
                have hcz53_6 : wc.cell? ⟨gb147, 6, none⟩ = some (.string a0_6) := (blk_cell BK147.out 6).trans rfl
                have hcz53_7 : wc.cell? ⟨gb147, 7, none⟩ = some (.string a0_7) := (blk_cell BK147.out 7).trans rfl
                have hcz53_8 : wc.cell? ⟨gb147, 8, none⟩ = some (.string a0_8) := (blk_cell BK147.out 8).trans rfl
                have hfz53_0 := blk_frozen BK147.out 0
                have hfz53_1 := blk_frozen BK147.out 1
                have hfz53_2 := blk_frozen BK147.out 2
                have hfz53_3 := blk_frozen BK147.out 3
                have hfz53_4 := blk_frozen BK147.out 4
                have hfz53_5 := blk_frozen BK147.out 5
                have hfz53_6 := blk_frozen BK147.out 6
                have hfz53_7 := blk_frozen BK147.out 7
                have hfz53_8 := blk_frozen BK147.out 8
                go_wp2_with (first | (go_at_call 52; (with_reducible refine (spec_GoodName.calls kj42 a0_7 true _ A48.out).mono ?_); rintro e w' ⟨rfl, ⟨nd, rfl⟩⟩) | (go_at_call 128; (with_reducible refine (spec_l1Printed.calls kj42 a0_8 t152 _ A52.out).mono ?_); rintro e w' ⟨rfl, ⟨nd, rfl⟩⟩))
                go_ret
                exact ⟨by first | rfl | (simp [errW_none, errW_some] <;> rfl) | (simp [*, errW_none, errW_some] <;> rfl), by repeat (first | (with_reducible first | exact HB.out | apply below_alloc | apply pw_below_drewN | apply below_drew1 | refine below_set ?_ GE147.out) | exact HB.out)⟩
               ·rw [if_neg c51] at H
                have c51b0 : decide ((a0_8.size : Int) ≤ 200) = false := decide_eq_false c51
                have c51b1 : decide (a0_8.size ≤ 200) = false := decide_eq_false (by omega)
                clear c51
                obtain rfl := Option.some.inj H
                have hcz54_0 : wc.cell? ⟨gb147, 0, none⟩ = some (.int .i64 a0_0) := (blk_cell BK147.out 0).trans rfl
                have hcz54_1 : wc.cell? ⟨gb147, 1, none⟩ = some (.int .i64 a0_1) := (blk_cell BK147.out 1).trans rfl
                have hcz54_2 : wc.cell? ⟨gb147, 2, none⟩ = some (.int .i64 a0_2) := (blk_cell BK147.out 2).trans rfl
                have hcz54_3 : wc.cell? ⟨gb147, 3, none⟩ = some (.int .i64 a0_3) := (blk_cell BK147.out 3).trans rfl
                have hcz54_4 : wc.cell? ⟨gb147, 4, none⟩ = some (.int .i64 a0_4) := (blk_cell BK147.out 4).trans rfl
                have hcz54_5 : wc.cell? ⟨gb147, 5, none⟩ = some (.string a0_5) := (blk_cell BK147.out 5).trans rfl
                have hcz54_6 : wc.cell? ⟨gb147, 6, none⟩ = some (.string a0_6) := (blk_cell BK147.out 6).trans rfl
                have hcz54_7 : wc.cell? ⟨gb147, 7, none⟩ = some (.string a0_7) := (blk_cell BK147.out 7).trans rfl
                have hcz54_8 : wc.cell? ⟨gb147, 8, none⟩ = some (.string a0_8) := (blk_cell BK147.out 8).trans rfl
                have hfz54_0 := blk_frozen BK147.out 0
                have hfz54_1 := blk_frozen BK147.out 1
                have hfz54_2 := blk_frozen BK147.out 2
                have hfz54_3 := blk_frozen BK147.out 3
                have hfz54_4 := blk_frozen BK147.out 4
                have hfz54_5 := blk_frozen BK147.out 5
                have hfz54_6 := blk_frozen BK147.out 6
                have hfz54_7 := blk_frozen BK147.out 7
                have hfz54_8 := blk_frozen BK147.out 8
                go_wp2_with (first | (go_at_call 52; (with_reducible refine (spec_GoodName.calls kj42 a0_7 true _ A48.out).mono ?_); rintro e w' ⟨rfl, ⟨nd, rfl⟩⟩))
                go_ret
                exact ⟨by first | rfl | (simp [errW_none, errW_some] <;> rfl) | (simp [*, errW_none, errW_some] <;> rfl), by repeat (first | (with_reducible first | exact HB.out | apply below_alloc | apply pw_below_drewN | apply below_drew1 | refine below_set ?_ GE147.out) | exact HB.out)⟩
              ·rw [if_neg c50] at H
               have c50b0 : decide (1 ≤ (a0_8.size : Int)) = false := decide_eq_false c50
               have c50b1 : decide (1 ≤ a0_8.size) = false := decide_eq_false (by omega)
               clear c50
               obtain rfl := Option.some.inj H
               have hcz55_0 : wc.cell? ⟨gb147, 0, none⟩ = some (.int .i64 a0_0) := (blk_cell BK147.out 0).trans rfl
               have hcz55_1 : wc.cell? ⟨gb147, 1, none⟩ = some (.int .i64 a0_1) := (blk_cell BK147.out 1).trans rfl
               have hcz55_2 : wc.cell? ⟨gb147, 2, none⟩ = some (.int .i64 a0_2) := (blk_cell BK147.out 2).trans rfl
               have hcz55_3 : wc.cell? ⟨gb147, 3, none⟩ = some (.int .i64 a0_3) := (blk_cell BK147.out 3).trans rfl
               have hcz55_4 : wc.cell? ⟨gb147, 4, none⟩ = some (.int .i64 a0_4) := (blk_cell BK147.out 4).trans rfl
               have hcz55_5 : wc.cell? ⟨gb147, 5, none⟩ = some (.string a0_5) := (blk_cell BK147.out 5).trans rfl
               have hcz55_6 : wc.cell? ⟨gb147, 6, none⟩ = some (.string a0_6) := (blk_cell BK147.out 6).trans rfl
               have hcz55_7 : wc.cell? ⟨gb147, 7, none⟩ = some (.string a0_7) := (blk_cell BK147.out 7).trans rfl
               have hcz55_8 : wc.cell? ⟨gb147, 8, none⟩ = some (.string a0_8) := (blk_cell BK147.out 8).trans rfl
               have hfz55_0 := blk_frozen BK147.out 0
               have hfz55_1 := blk_frozen BK147.out 1
               have hfz55_2 := blk_frozen BK147.out 2
               have hfz55_3 := blk_frozen BK147.out 3
               have hfz55_4 := blk_frozen BK147.out 4
               have hfz55_5 := blk_frozen BK147.out 5
               have hfz55_6 := blk_frozen BK147.out 6
               have hfz55_7 := blk_frozen BK147.out 7
               have hfz55_8 := blk_frozen BK147.out 8
               go_wp2_with (first | (go_at_call 52; (with_reducible refine (spec_GoodName.calls kj42 a0_7 true _ A48.out).mono ?_); rintro e w' ⟨rfl, ⟨nd, rfl⟩⟩))
               go_ret
               exact ⟨by first | rfl | (simp [errW_none, errW_some] <;> rfl) | (simp [*, errW_none, errW_some] <;> rfl), by repeat (first | (with_reducible first | exact HB.out | apply below_alloc | apply pw_below_drewN | apply below_drew1 | refine below_set ?_ GE147.out) | exact HB.out)⟩
             ·replace c49 := Bool.eq_false_iff.mpr c49
              subst c49
              have H1 : (some false) = some r := by rw [if_neg (show ¬ (false = true) by decide)] at H; exact H
              clear H
              have H := H1
              clear H1
              obtain rfl := Option.some.inj H
              have hcz56_0 : wc.cell? ⟨gb147, 0, none⟩ = some (.int .i64 a0_0) := (blk_cell BK147.out 0).trans rfl
              have hcz56_1 : wc.cell? ⟨gb147, 1, none⟩ = some (.int .i64 a0_1) := (blk_cell BK147.out 1).trans rfl
              have hcz56_2 : wc.cell? ⟨gb147, 2, none⟩ = some (.int .i64 a0_2) := (blk_cell BK147.out 2).trans rfl
              have hcz56_3 : wc.cell? ⟨gb147, 3, none⟩ = some (.int .i64 a0_3) := (blk_cell BK147.out 3).trans rfl
              have hcz56_4 : wc.cell? ⟨gb147, 4, none⟩ = some (.int .i64 a0_4) := (blk_cell BK147.out 4).trans rfl
              have hcz56_5 : wc.cell? ⟨gb147, 5, none⟩ = some (.string a0_5) := (blk_cell BK147.out 5).trans rfl
              have hcz56_6 : wc.cell? ⟨gb147, 6, none⟩ = some (.string a0_6) := (blk_cell BK147.out 6).trans rfl
              have hcz56_7 : wc.cell? ⟨gb147, 7, none⟩ = some (.string a0_7) := (blk_cell BK147.out 7).trans rfl
              have hcz56_8 : wc.cell? ⟨gb147, 8, none⟩ = some (.string a0_8) := (blk_cell BK147.out 8).trans rfl
              have hfz56_0 := blk_frozen BK147.out 0
              have hfz56_1 := blk_frozen BK147.out 1
              have hfz56_2 := blk_frozen BK147.out 2
              have hfz56_3 := blk_frozen BK147.out 3
              have hfz56_4 := blk_frozen BK147.out 4
              have hfz56_5 := blk_frozen BK147.out 5
              have hfz56_6 := blk_frozen BK147.out 6
              have hfz56_7 := blk_frozen BK147.out 7
              have hfz56_8 := blk_frozen BK147.out 8
              go_wp2_with (first | (go_at_call 52; (with_reducible refine (spec_GoodName.calls kj42 a0_7 false _ A48.out).mono ?_); rintro e w' ⟨rfl, ⟨nd, rfl⟩⟩))
              go_ret
              exact ⟨by first | rfl | (simp [errW_none, errW_some] <;> rfl) | (simp [*, errW_none, errW_some] <;> rfl), by repeat (first | (with_reducible first | exact HB.out | apply below_alloc | apply pw_below_drewN | apply below_drew1 | refine below_set ?_ GE147.out) | exact HB.out)⟩
            ·replace c47 := Bool.eq_false_iff.mpr c47
             subst c47
             have H1 : (some false) = some r := by rw [if_neg (show ¬ (false = true) by decide)] at H; exact H
             clear H
             have H := H1
             clear H1
             obtain rfl := Option.some.inj H
             go_wp2
             go_ret
             exact ⟨by first | rfl | (simp [errW_none, errW_some] <;> rfl) | (simp [*, errW_none, errW_some] <;> rfl), by repeat (first | (with_reducible first | exact HB.out | apply below_alloc | apply pw_below_drewN | apply below_drew1 | refine below_set ?_ GE147.out) | exact HB.out)⟩
           ·replace c46 := Bool.eq_false_iff.mpr c46
            subst c46
            have H1 : (if a0_2 = 4 then (if x3_15 = true then (some x4_19) else (some false)) else (some false)) = some r := by rw [if_neg (show ¬ (false = true) by decide)] at H; exact H
            clear H
            have H := H1
            clear H1
            by_cases c57 : a0_2 = 4
            ·rw [if_pos c57] at H
             have c57b0 : (a0_2 == 4) = true := beq_iff_eq.mpr c57
             have c57b1 : (a0_2 != 4) = false := bne_eq_false_iff_eq.mpr c57
             clear c57
             by_cases c58 : x3_15 = true
             ·subst c58
              have H1 : (some x4_19) = some r := by rw [if_pos rfl] at H; exact H
              clear H
              have H := H1
              clear H1
              obtain rfl := Option.some.inj H
              go_wp2
              go_ret
              exact ⟨by first | rfl | (simp [errW_none, errW_some] <;> rfl) | (simp [*, errW_none, errW_some] <;> rfl), by repeat (first | (with_reducible first | exact HB.out | apply below_alloc | apply pw_below_drewN | apply below_drew1 | refine below_set ?_ GE147.out) | exact HB.out)⟩
             ·replace c58 := Bool.eq_false_iff.mpr c58
              subst c58
              have H1 : (some false) = some r := by rw [if_neg (show ¬ (false = true) by decide)] at H; exact H
              clear H
              have H := H1
              clear H1
              obtain rfl := Option.some.inj H
              go_wp2
              go_ret
              exact ⟨by first | rfl | (simp [errW_none, errW_some] <;> rfl) | (simp [*, errW_none, errW_some] <;> rfl), by repeat (first | (with_reducible first | exact HB.out | apply below_alloc | apply pw_below_drewN | apply below_drew1 | refine below_set ?_ GE147.out) | exact HB.out)⟩
            ·rw [if_neg c57] at H
             have c57b0 : (a0_2 == 4) = false := beq_eq_false_iff_ne.mpr c57
             have c57b1 : (a0_2 != 4) = true := bne_iff_ne.mpr c57
             obtain rfl := Option.some.inj H
             go_wp2
             go_ret
             exact ⟨by first | rfl | (simp [errW_none, errW_some] <;> rfl) | (simp [*, errW_none, errW_some] <;> rfl), by repeat (first | (with_reducible first | exact HB.out | apply below_alloc | apply pw_below_drewN | apply below_drew1 | refine below_set ?_ GE147.out) | exact HB.out)⟩

end Go.Proofs.Ytcgiegkcmofhhab.PFnExactVectorOf
