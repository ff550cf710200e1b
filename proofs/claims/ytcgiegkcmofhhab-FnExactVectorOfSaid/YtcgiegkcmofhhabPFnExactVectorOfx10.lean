-- Written for this claim by a program of this session, which goes by the kit's print and takes contracts proved by hand.
import Derived.Test.YtcgiegkcmofhhabPFnExactVectorOfx0
import Derived.Test.YtcgiegkcmofhhabPFnExactVectorOfx1
import Derived.Test.YtcgiegkcmofhhabPFnExactVectorOfx8
import Derived.Test.YtcgiegkcmofhhabPFnExactVectorOfx9
namespace Go.Proofs.Ytcgiegkcmofhhab.PFnExactVectorOf
open Go.RowKit Go.Proofs.YtcgiegkcmofhhabW.PrintWords Go.Proofs.YtcgiegkcmofhhabW.PrintLast Go.Proofs.YtcgiegkcmofhhabW.PrintMore
attribute [local go_sem] max2_int min2_int max_two min_two max_three min_three max_four min_four   -- for this text's walks alone
set_option linter.unusedVariables false
set_option linter.unusedSimpArgs false

attribute [local go_sem high] eqA93
/-! ### impl_GoodChange: function 95 -/
mutual
def impl_GoodChange.j0 : Nat → Bool → Int → Int → Int → Int → Int → ByteArray → ByteArray → ByteArray → ByteArray → Option (Bool)
 | 0, _, _, _, _, _, _, _, _, _, _ => none
 | k + 1, x36, x181000, x181001, x181002, x181003, x181004, x181005, x181006, x181007, x181008 => if x36 = true then (some false) else (if x181004 = 0 then (impl_GoodChange.j1 k (x181005.toList == ([] : List UInt8) && (x181006.toList == ([] : List UInt8))) x181000 x181001 x181002 x181003 x181004 x181005 x181006 x181007 x181008) else (impl_GoodChange.j1 k false x181000 x181001 x181002 x181003 x181004 x181005 x181006 x181007 x181008))
def impl_GoodChange.j1 : Nat → Bool → Int → Int → Int → Int → Int → ByteArray → ByteArray → ByteArray → ByteArray → Option (Bool)
 | 0, _, _, _, _, _, _, _, _, _, _ => none
 | k + 1, x3, x181000, x181001, x181002, x181003, x181004, x181005, x181006, x181007, x181008 => if x181007.toList = ([] : List UInt8) then (impl_GoodChange.j2 k x3 (x181008.toList == ([] : List UInt8)) x181000 x181001 x181002 x181003 x181004 x181005 x181006 x181007 x181008) else (impl_GoodChange.j2 k x3 false x181000 x181001 x181002 x181003 x181004 x181005 x181006 x181007 x181008)
def impl_GoodChange.j2 : Nat → Bool → Bool → Int → Int → Int → Int → Int → ByteArray → ByteArray → ByteArray → ByteArray → Option (Bool)
 | 0, _, _, _, _, _, _, _, _, _, _, _ => none
 | k + 1, x3, x4, x181000, x181001, x181002, x181003, x181004, x181005, x181006, x181007, x181008 => if x181002 = 1 then (if x4 = true then (if x181004 ≥ 0 then (if x181004 ≤ 1000 then ((impl_ygoodPart.f k x181005 x181006 50).bind fun t181 => (if t181 = true then ((strings_Contains.f x181006 (⟨#[126]⟩ : ByteArray)).bind fun t182 => (some (!t182))) else (some false))) else (some false)) else (some false)) else (some false)) else (if x181002 = 2 then (impl_GoodChange.j3 k x3 x4 x181002 (x181002 == 2) x181000 x181001 x181002 x181003 x181004 x181005 x181006 x181007 x181008) else (impl_GoodChange.j3 k x3 x4 x181002 (x181002 == 3) x181000 x181001 x181002 x181003 x181004 x181005 x181006 x181007 x181008))
def impl_GoodChange.j3 : Nat → Bool → Bool → Int → Bool → Int → Int → Int → Int → Int → ByteArray → ByteArray → ByteArray → ByteArray → Option (Bool)
 | 0, _, _, _, _, _, _, _, _, _, _, _, _, _ => none
 | k + 1, x3, x4, x55, x81, x181000, x181001, x181002, x181003, x181004, x181005, x181006, x181007, x181008 => if x81 = true then (if x3 = true then ((impl_GoodName.f k x181007).bind fun t183 => (if t183 = true then ((impl_yprinted.f k x181008 1 200).bind fun t184 => (some t184)) else (some false))) else (some false)) else (if x55 = 4 then (if x3 = true then (some x4) else (some false)) else (some false))
end
def impl_GoodChange.f (k : Nat) (a0_0 : Int) (a0_1 : Int) (a0_2 : Int) (a0_3 : Int) (a0_4 : Int) (a0_5 : ByteArray) (a0_6 : ByteArray) (a0_7 : ByteArray) (a0_8 : ByteArray) : Option (Bool) := if a0_0 < 1 then (impl_GoodChange.j0 k true a0_0 a0_1 a0_2 a0_3 a0_4 a0_5 a0_6 a0_7 a0_8) else (if a0_0 > 1000000000 then (impl_GoodChange.j0 k true a0_0 a0_1 a0_2 a0_3 a0_4 a0_5 a0_6 a0_7 a0_8) else (if a0_1 < 0 then (impl_GoodChange.j0 k true a0_0 a0_1 a0_2 a0_3 a0_4 a0_5 a0_6 a0_7 a0_8) else (if a0_1 > 99 then (impl_GoodChange.j0 k true a0_0 a0_1 a0_2 a0_3 a0_4 a0_5 a0_6 a0_7 a0_8) else (if a0_3 < 1 then (impl_GoodChange.j0 k true a0_0 a0_1 a0_2 a0_3 a0_4 a0_5 a0_6 a0_7 a0_8) else (impl_GoodChange.j0 k (decide (a0_3 > 1000)) a0_0 a0_1 a0_2 a0_3 a0_4 a0_5 a0_6 a0_7 a0_8)))))
theorem impl_GoodChange.mono_l : ∀ k, (∀ y0 y1 y2 y3 y4 y5 y6 y7 y8 y9, LeO (impl_GoodChange.j0 k y0 y1 y2 y3 y4 y5 y6 y7 y8 y9) (impl_GoodChange.j0 (k + 1) y0 y1 y2 y3 y4 y5 y6 y7 y8 y9)) ∧ (∀ y0 y1 y2 y3 y4 y5 y6 y7 y8 y9, LeO (impl_GoodChange.j1 k y0 y1 y2 y3 y4 y5 y6 y7 y8 y9) (impl_GoodChange.j1 (k + 1) y0 y1 y2 y3 y4 y5 y6 y7 y8 y9)) ∧ (∀ y0 y1 y2 y3 y4 y5 y6 y7 y8 y9 y10, LeO (impl_GoodChange.j2 k y0 y1 y2 y3 y4 y5 y6 y7 y8 y9 y10) (impl_GoodChange.j2 (k + 1) y0 y1 y2 y3 y4 y5 y6 y7 y8 y9 y10)) ∧ (∀ y0 y1 y2 y3 y4 y5 y6 y7 y8 y9 y10 y11 y12, LeO (impl_GoodChange.j3 k y0 y1 y2 y3 y4 y5 y6 y7 y8 y9 y10 y11 y12) (impl_GoodChange.j3 (k + 1) y0 y1 y2 y3 y4 y5 y6 y7 y8 y9 y10 y11 y12))
 | 0 => ⟨fun _ _ _ _ _ _ _ _ _ _ r h => by simp [impl_GoodChange.j0] at h, fun _ _ _ _ _ _ _ _ _ _ r h => by simp [impl_GoodChange.j1] at h, fun _ _ _ _ _ _ _ _ _ _ _ r h => by simp [impl_GoodChange.j2] at h, fun _ _ _ _ _ _ _ _ _ _ _ _ _ r h => by simp [impl_GoodChange.j3] at h⟩
 | k + 1 => by
  obtain ⟨ih0, ih1, ih2, ih3⟩ := impl_GoodChange.mono_l k
  refine ⟨?_, ?_, ?_, ?_⟩
  ·intro y0 y1 y2 y3 y4 y5 y6 y7 y8 y9
   unfold impl_GoodChange.j0
   repeat' first
   | (with_reducible exact ih0 _ _ _ _ _ _ _ _ _ _)
   | (with_reducible exact ih1 _ _ _ _ _ _ _ _ _ _)
   | (with_reducible exact ih2 _ _ _ _ _ _ _ _ _ _ _)
   | (with_reducible exact ih3 _ _ _ _ _ _ _ _ _ _ _ _ _)
   | (with_reducible exact impl_GoodName.mono _ _)
   | (with_reducible exact impl_ygoodPart.mono _ _ _ _)
   | (with_reducible exact impl_yprinted.mono _ _ _ _)
   | (with_reducible exact LeO.refl _)
   | (with_reducible exact LeO.none _)
   | (with_reducible refine LeO.ite ?_ ?_)
   | (with_reducible refine LeO.bind ?_ (fun _ => ?_))
   | exact ih0 _ _ _ _ _ _ _ _ _ _
   | exact ih1 _ _ _ _ _ _ _ _ _ _
   | exact ih2 _ _ _ _ _ _ _ _ _ _ _
   | exact ih3 _ _ _ _ _ _ _ _ _ _ _ _ _
   | exact impl_GoodName.mono _ _
   | exact impl_ygoodPart.mono _ _ _ _
   | exact impl_yprinted.mono _ _ _ _
   | exact LeO.none _
   | refine LeO.ite ?_ ?_
   | refine LeO.bind ?_ (fun _ => ?_)
  ·intro y0 y1 y2 y3 y4 y5 y6 y7 y8 y9
   unfold impl_GoodChange.j1
   repeat' first
   | (with_reducible exact ih0 _ _ _ _ _ _ _ _ _ _)
   | (with_reducible exact ih1 _ _ _ _ _ _ _ _ _ _)
   | (with_reducible exact ih2 _ _ _ _ _ _ _ _ _ _ _)
   | (with_reducible exact ih3 _ _ _ _ _ _ _ _ _ _ _ _ _)
   | (with_reducible exact impl_GoodName.mono _ _)
   | (with_reducible exact impl_ygoodPart.mono _ _ _ _)
   | (with_reducible exact impl_yprinted.mono _ _ _ _)
   | (with_reducible exact LeO.refl _)
   | (with_reducible exact LeO.none _)
   | (with_reducible refine LeO.ite ?_ ?_)
   | (with_reducible refine LeO.bind ?_ (fun _ => ?_))
   | exact ih0 _ _ _ _ _ _ _ _ _ _
   | exact ih1 _ _ _ _ _ _ _ _ _ _
   | exact ih2 _ _ _ _ _ _ _ _ _ _ _
   | exact ih3 _ _ _ _ _ _ _ _ _ _ _ _ _
   | exact impl_GoodName.mono _ _
   | exact impl_ygoodPart.mono _ _ _ _
   | exact impl_yprinted.mono _ _ _ _
   | exact LeO.none _
   | refine LeO.ite ?_ ?_
   | refine LeO.bind ?_ (fun _ => ?_)
  ·intro y0 y1 y2 y3 y4 y5 y6 y7 y8 y9 y10
   unfold impl_GoodChange.j2
   repeat' first
   | (with_reducible exact ih0 _ _ _ _ _ _ _ _ _ _)
   | (with_reducible exact ih1 _ _ _ _ _ _ _ _ _ _)
   | (with_reducible exact ih2 _ _ _ _ _ _ _ _ _ _ _)
   | (with_reducible exact ih3 _ _ _ _ _ _ _ _ _ _ _ _ _)
   | (with_reducible exact impl_GoodName.mono _ _)
   | (with_reducible exact impl_ygoodPart.mono _ _ _ _)
   | (with_reducible exact impl_yprinted.mono _ _ _ _)
   | (with_reducible exact LeO.refl _)
   | (with_reducible exact LeO.none _)
   | (with_reducible refine LeO.ite ?_ ?_)
   | (with_reducible refine LeO.bind ?_ (fun _ => ?_))
   | exact ih0 _ _ _ _ _ _ _ _ _ _
   | exact ih1 _ _ _ _ _ _ _ _ _ _
   | exact ih2 _ _ _ _ _ _ _ _ _ _ _
   | exact ih3 _ _ _ _ _ _ _ _ _ _ _ _ _
   | exact impl_GoodName.mono _ _
   | exact impl_ygoodPart.mono _ _ _ _
   | exact impl_yprinted.mono _ _ _ _
   | exact LeO.none _
   | refine LeO.ite ?_ ?_
   | refine LeO.bind ?_ (fun _ => ?_)
  ·intro y0 y1 y2 y3 y4 y5 y6 y7 y8 y9 y10 y11 y12
   unfold impl_GoodChange.j3
   repeat' first
   | (with_reducible exact ih0 _ _ _ _ _ _ _ _ _ _)
   | (with_reducible exact ih1 _ _ _ _ _ _ _ _ _ _)
   | (with_reducible exact ih2 _ _ _ _ _ _ _ _ _ _ _)
   | (with_reducible exact ih3 _ _ _ _ _ _ _ _ _ _ _ _ _)
   | (with_reducible exact impl_GoodName.mono _ _)
   | (with_reducible exact impl_ygoodPart.mono _ _ _ _)
   | (with_reducible exact impl_yprinted.mono _ _ _ _)
   | (with_reducible exact LeO.refl _)
   | (with_reducible exact LeO.none _)
   | (with_reducible refine LeO.ite ?_ ?_)
   | (with_reducible refine LeO.bind ?_ (fun _ => ?_))
   | exact ih0 _ _ _ _ _ _ _ _ _ _
   | exact ih1 _ _ _ _ _ _ _ _ _ _
   | exact ih2 _ _ _ _ _ _ _ _ _ _ _
   | exact ih3 _ _ _ _ _ _ _ _ _ _ _ _ _
   | exact impl_GoodName.mono _ _
   | exact impl_ygoodPart.mono _ _ _ _
   | exact impl_yprinted.mono _ _ _ _
   | exact LeO.none _
   | refine LeO.ite ?_ ?_
   | refine LeO.bind ?_ (fun _ => ?_)
theorem impl_GoodChange.mono : ∀ a0 a1 a2 a3 a4 a5 a6 a7 a8 k, LeO (impl_GoodChange.f k a0 a1 a2 a3 a4 a5 a6 a7 a8) (impl_GoodChange.f (k + 1) a0 a1 a2 a3 a4 a5 a6 a7 a8) := by
 intro a0 a1 a2 a3 a4 a5 a6 a7 a8 k
 obtain ⟨ih0, ih1, ih2, ih3⟩ := impl_GoodChange.mono_l k
 unfold impl_GoodChange.f
 repeat' first
   | (with_reducible exact ih0 _ _ _ _ _ _ _ _ _ _)
   | (with_reducible exact ih1 _ _ _ _ _ _ _ _ _ _)
   | (with_reducible exact ih2 _ _ _ _ _ _ _ _ _ _ _)
   | (with_reducible exact ih3 _ _ _ _ _ _ _ _ _ _ _ _ _)
   | (with_reducible exact impl_GoodName.mono _ _)
   | (with_reducible exact impl_ygoodPart.mono _ _ _ _)
   | (with_reducible exact impl_yprinted.mono _ _ _ _)
   | (with_reducible exact LeO.refl _)
   | (with_reducible exact LeO.none _)
   | (with_reducible refine LeO.ite ?_ ?_)
   | (with_reducible refine LeO.bind ?_ (fun _ => ?_))
   | exact ih0 _ _ _ _ _ _ _ _ _ _
   | exact ih1 _ _ _ _ _ _ _ _ _ _
   | exact ih2 _ _ _ _ _ _ _ _ _ _ _
   | exact ih3 _ _ _ _ _ _ _ _ _ _ _ _ _
   | exact impl_GoodName.mono _ _
   | exact impl_ygoodPart.mono _ _ _ _
   | exact impl_yprinted.mono _ _ _ _
   | exact LeO.none _
   | refine LeO.ite ?_ ?_
   | refine LeO.bind ?_ (fun _ => ?_)
set_option maxHeartbeats 8000000 in
set_option maxRecDepth 100000 in
theorem impl_GoodChange.calls (k : Nat) (a0_0 : Int) (a0_1 : Int) (a0_2 : Int) (a0_3 : Int) (a0_4 : Int) (a0_5 : ByteArray) (a0_6 : ByteArray) (a0_7 : ByteArray) (a0_8 : ByteArray) (r : Bool) (w : World) (h : impl_GoodChange.f k a0_0 a0_1 a0_2 a0_3 a0_4 a0_5 a0_6 a0_7 a0_8 = some r) :
  Calls Try.prog 95 #[.agg #[.int .i64 a0_0, .int .i64 a0_1, .int .i64 a0_2, .int .i64 a0_3, .int .i64 a0_4, .string a0_5, .string a0_6, .string a0_7, .string a0_8]] w fun e w' => e = .returned (.bool r) ∧ Below w.heap.size w w' := by
 have hu95 := Try.underlying95
 have hu93 := Try.underlying93
 have HB := Aside0.mk (Below.refl w.heap.size w)
 have H : (if a0_0 < 1 then (impl_GoodChange.j0 k true a0_0 a0_1 a0_2 a0_3 a0_4 a0_5 a0_6 a0_7 a0_8) else (if a0_0 > 1000000000 then (impl_GoodChange.j0 k true a0_0 a0_1 a0_2 a0_3 a0_4 a0_5 a0_6 a0_7 a0_8) else (if a0_1 < 0 then (impl_GoodChange.j0 k true a0_0 a0_1 a0_2 a0_3 a0_4 a0_5 a0_6 a0_7 a0_8) else (if a0_1 > 99 then (impl_GoodChange.j0 k true a0_0 a0_1 a0_2 a0_3 a0_4 a0_5 a0_6 a0_7 a0_8) else (if a0_3 < 1 then (impl_GoodChange.j0 k true a0_0 a0_1 a0_2 a0_3 a0_4 a0_5 a0_6 a0_7 a0_8) else (impl_GoodChange.j0 k (decide (a0_3 > 1000)) a0_0 a0_1 a0_2 a0_3 a0_4 a0_5 a0_6 a0_7 a0_8)))))) = some r := h
 clear h
 have HC2 := Aside0.mk H
 clear H
 go_enter Try.func95, Try.ntmps95
 go_upto_region 1 with (first | ((with_reducible refine gate_dst (N := 1) rfl ?_); refine box_event ?hg (N := 1) ?hd (cs := #[.int .i64 a0_0, .int .i64 a0_1, .int .i64 a0_2, .int .i64 a0_3, .int .i64 a0_4, .string a0_5, .string a0_6, .string a0_7, .string a0_8]) (t := 95) ?hr ?_; (case hd => rfl); (case hg => rfl); (case hr => first | (go_simp; done) | (go_simp; rfl)); intro gb180 hg w3 hbox hb; have n0_ := Aside0.mk (below_step (by repeat (first | (with_reducible first | exact HB.out | apply below_alloc | apply pw_below_drewN | apply below_drew1) | exact HB.out)) hb); have n1_ := Aside0.mk (hbox); have n2_ := Aside0.mk ((by rw [hg]; exact (below_size (by repeat (first | (with_reducible first | exact HB.out | apply below_alloc | apply pw_below_drewN | apply below_drew1) | exact HB.out))) : w.heap.size ≤ gb180)); have n3_ := Aside0.mk ((by rw [hg]; exact (below_size (by repeat (first | (with_reducible first | exact HB.out | apply below_alloc | apply pw_below_drewN | apply below_drew1) | exact HB.out))) : w.heap.size ≤ gb180)); clear HB; have HB := n0_; have BK180 := n1_; have GW180 := n2_; have GE180 := n3_; clear n0_ n1_ n2_ n3_; clear hb hbox hg))
 (try simp only [Act.put, List.setIfInBounds_toArray, List.set_cons_zero, List.set_cons_succ])
 go_cut [36] (fun v36 wc => ∃ (kq : Nat) (x36_1 : Bool), v36 = .bool x36_1 ∧ Aside0 (impl_GoodChange.j0 kq x36_1 a0_0 a0_1 a0_2 a0_3 a0_4 a0_5 a0_6 a0_7 a0_8 = some r) ∧ Aside0 (kq ≤ k) ∧ Aside0 (wc.heap[gb180]? = some (.cells #[.int .i64 a0_0, .int .i64 a0_1, .int .i64 a0_2, .int .i64 a0_3, .int .i64 a0_4, .string a0_5, .string a0_6, .string a0_7, .string a0_8] 95 (0, 0))) ∧ Aside0 (Below w.heap.size w wc))
 case first =>
  have H := HC2.out
  clear HC2
  by_cases c4 : a0_0 < 1
  ·rw [if_pos c4] at H
   have c4b0 : decide (a0_0 < 1) = true := decide_eq_true c4
   clear c4
   (first | rw [c4b0] | (simp only [i64_w, i32_w]; rw [c4b0]) | skip)
   have H' := Aside0.mk H
   clear H
   have hcz5_0 : w3.cell? ⟨gb180, 0, none⟩ = some (.int .i64 a0_0) := (blk_cell BK180.out 0).trans rfl
   have hcz5_1 : w3.cell? ⟨gb180, 1, none⟩ = some (.int .i64 a0_1) := (blk_cell BK180.out 1).trans rfl
   have hcz5_2 : w3.cell? ⟨gb180, 2, none⟩ = some (.int .i64 a0_2) := (blk_cell BK180.out 2).trans rfl
   have hcz5_3 : w3.cell? ⟨gb180, 3, none⟩ = some (.int .i64 a0_3) := (blk_cell BK180.out 3).trans rfl
   have hcz5_4 : w3.cell? ⟨gb180, 4, none⟩ = some (.int .i64 a0_4) := (blk_cell BK180.out 4).trans rfl
   have hcz5_5 : w3.cell? ⟨gb180, 5, none⟩ = some (.string a0_5) := (blk_cell BK180.out 5).trans rfl
   have hcz5_6 : w3.cell? ⟨gb180, 6, none⟩ = some (.string a0_6) := (blk_cell BK180.out 6).trans rfl
   have hcz5_7 : w3.cell? ⟨gb180, 7, none⟩ = some (.string a0_7) := (blk_cell BK180.out 7).trans rfl
   have hcz5_8 : w3.cell? ⟨gb180, 8, none⟩ = some (.string a0_8) := (blk_cell BK180.out 8).trans rfl
   have hfz5_0 := blk_frozen BK180.out 0
   have hfz5_1 := blk_frozen BK180.out 1
   have hfz5_2 := blk_frozen BK180.out 2
   have hfz5_3 := blk_frozen BK180.out 3
   have hfz5_4 := blk_frozen BK180.out 4
   have hfz5_5 := blk_frozen BK180.out 5
   have hfz5_6 := blk_frozen BK180.out 6
   have hfz5_7 := blk_frozen BK180.out 7
   have hfz5_8 := blk_frozen BK180.out 8
   go_wp2
   go_meet
   case rel => exact ⟨_, (true), (by first | rfl | (simp; done) | (simp [pw_ne_nil, pw_eq_nil]; done) | (simp [*]; done)), H', ⟨by first | omega | exact Nat.le_refl _⟩, ⟨by (with_reducible repeat (first | refine blk_drewN ?_ _ | refine blk_drew ?_ | refine blk_alloc ?_ _)); exact BK180.out⟩, ⟨by repeat (first | (with_reducible first | exact HB.out | apply below_alloc | apply pw_below_drewN | apply below_drew1 | refine below_set ?_ GE180.out) | exact HB.out)⟩⟩
  ·rw [if_neg c4] at H
   have c4b0 : decide (a0_0 < 1) = false := decide_eq_false c4
   clear c4
   (first | rw [c4b0] | (simp only [i64_w, i32_w]; rw [c4b0]) | skip)
   by_cases c6 : a0_0 > 1000000000
   ·rw [if_pos c6] at H
    have c6b0 : decide (1000000000 < a0_0) = true := decide_eq_true c6
    clear c6
    have H' := Aside0.mk H
    clear H
    have hcz7_0 : w3.cell? ⟨gb180, 0, none⟩ = some (.int .i64 a0_0) := (blk_cell BK180.out 0).trans rfl
    have hcz7_1 : w3.cell? ⟨gb180, 1, none⟩ = some (.int .i64 a0_1) := (blk_cell BK180.out 1).trans rfl
    have hcz7_2 : w3.cell? ⟨gb180, 2, none⟩ = some (.int .i64 a0_2) := (blk_cell BK180.out 2).trans rfl
    have hcz7_3 : w3.cell? ⟨gb180, 3, none⟩ = some (.int .i64 a0_3) := (blk_cell BK180.out 3).trans rfl
    have hcz7_4 : w3.cell? ⟨gb180, 4, none⟩ = some (.int .i64 a0_4) := (blk_cell BK180.out 4).trans rfl
    have hcz7_5 : w3.cell? ⟨gb180, 5, none⟩ = some (.string a0_5) := (blk_cell BK180.out 5).trans rfl
    have hcz7_6 : w3.cell? ⟨gb180, 6, none⟩ = some (.string a0_6) := (blk_cell BK180.out 6).trans rfl
    have hcz7_7 : w3.cell? ⟨gb180, 7, none⟩ = some (.string a0_7) := (blk_cell BK180.out 7).trans rfl
    have hcz7_8 : w3.cell? ⟨gb180, 8, none⟩ = some (.string a0_8) := (blk_cell BK180.out 8).trans rfl
    have hfz7_0 := blk_frozen BK180.out 0
    have hfz7_1 := blk_frozen BK180.out 1
    have hfz7_2 := blk_frozen BK180.out 2
    have hfz7_3 := blk_frozen BK180.out 3
    have hfz7_4 := blk_frozen BK180.out 4
    have hfz7_5 := blk_frozen BK180.out 5
    have hfz7_6 := blk_frozen BK180.out 6
    have hfz7_7 := blk_frozen BK180.out 7
    have hfz7_8 := blk_frozen BK180.out 8
    go_wp2
    go_meet
    case rel => exact ⟨_, (true), (by first | rfl | (simp; done) | (simp [pw_ne_nil, pw_eq_nil]; done) | (simp [*]; done)), H', ⟨by first | omega | exact Nat.le_refl _⟩, ⟨by (with_reducible repeat (first | refine blk_drewN ?_ _ | refine blk_drew ?_ | refine blk_alloc ?_ _)); exact BK180.out⟩, ⟨by repeat (first | (with_reducible first | exact HB.out | apply below_alloc | apply pw_below_drewN | apply below_drew1 | refine below_set ?_ GE180.out) | exact HB.out)⟩⟩
   ·rw [if_neg c6] at H
    have c6b0 : decide (1000000000 < a0_0) = false := decide_eq_false c6
    clear c6
    by_cases c8 : a0_1 < 0
    ·rw [if_pos c8] at H
     have c8b0 : decide (a0_1 < 0) = true := decide_eq_true c8
     clear c8
     have H' := Aside0.mk H
     clear H
     have hcz9_0 : w3.cell? ⟨gb180, 0, none⟩ = some (.int .i64 a0_0) := (blk_cell BK180.out 0).trans rfl
     have hcz9_1 : w3.cell? ⟨gb180, 1, none⟩ = some (.int .i64 a0_1) := (blk_cell BK180.out 1).trans rfl
     have hcz9_2 : w3.cell? ⟨gb180, 2, none⟩ = some (.int .i64 a0_2) := (blk_cell BK180.out 2).trans rfl
     have hcz9_3 : w3.cell? ⟨gb180, 3, none⟩ = some (.int .i64 a0_3) := (blk_cell BK180.out 3).trans rfl
     have hcz9_4 : w3.cell? ⟨gb180, 4, none⟩ = some (.int .i64 a0_4) := (blk_cell BK180.out 4).trans rfl
     have hcz9_5 : w3.cell? ⟨gb180, 5, none⟩ = some (.string a0_5) := (blk_cell BK180.out 5).trans rfl
     have hcz9_6 : w3.cell? ⟨gb180, 6, none⟩ = some (.string a0_6) := (blk_cell BK180.out 6).trans rfl
     have hcz9_7 : w3.cell? ⟨gb180, 7, none⟩ = some (.string a0_7) := (blk_cell BK180.out 7).trans rfl
     have hcz9_8 : w3.cell? ⟨gb180, 8, none⟩ = some (.string a0_8) := (blk_cell BK180.out 8).trans rfl
     have hfz9_0 := blk_frozen BK180.out 0
     have hfz9_1 := blk_frozen BK180.out 1
     have hfz9_2 := blk_frozen BK180.out 2
     have hfz9_3 := blk_frozen BK180.out 3
     have hfz9_4 := blk_frozen BK180.out 4
     have hfz9_5 := blk_frozen BK180.out 5
     have hfz9_6 := blk_frozen BK180.out 6
     have hfz9_7 := blk_frozen BK180.out 7
     have hfz9_8 := blk_frozen BK180.out 8
     go_wp2
     go_meet
     case rel => exact ⟨_, (true), (by first | rfl | (simp; done) | (simp [pw_ne_nil, pw_eq_nil]; done) | (simp [*]; done)), H', ⟨by first | omega | exact Nat.le_refl _⟩, ⟨by (with_reducible repeat (first | refine blk_drewN ?_ _ | refine blk_drew ?_ | refine blk_alloc ?_ _)); exact BK180.out⟩, ⟨by repeat (first | (with_reducible first | exact HB.out | apply below_alloc | apply pw_below_drewN | apply below_drew1 | refine below_set ?_ GE180.out) | exact HB.out)⟩⟩
    ·rw [if_neg c8] at H
     have c8b0 : decide (a0_1 < 0) = false := decide_eq_false c8
     clear c8
     by_cases c10 : a0_1 > 99
     ·rw [if_pos c10] at H
      have c10b0 : decide (99 < a0_1) = true := decide_eq_true c10
      clear c10
      have H' := Aside0.mk H
      clear H
      have hcz11_0 : w3.cell? ⟨gb180, 0, none⟩ = some (.int .i64 a0_0) := (blk_cell BK180.out 0).trans rfl
      have hcz11_1 : w3.cell? ⟨gb180, 1, none⟩ = some (.int .i64 a0_1) := (blk_cell BK180.out 1).trans rfl
      have hcz11_2 : w3.cell? ⟨gb180, 2, none⟩ = some (.int .i64 a0_2) := (blk_cell BK180.out 2).trans rfl
      have hcz11_3 : w3.cell? ⟨gb180, 3, none⟩ = some (.int .i64 a0_3) := (blk_cell BK180.out 3).trans rfl
      have hcz11_4 : w3.cell? ⟨gb180, 4, none⟩ = some (.int .i64 a0_4) := (blk_cell BK180.out 4).trans rfl
      have hcz11_5 : w3.cell? ⟨gb180, 5, none⟩ = some (.string a0_5) := (blk_cell BK180.out 5).trans rfl
      have hcz11_6 : w3.cell? ⟨gb180, 6, none⟩ = some (.string a0_6) := (blk_cell BK180.out 6).trans rfl
      have hcz11_7 : w3.cell? ⟨gb180, 7, none⟩ = some (.string a0_7) := (blk_cell BK180.out 7).trans rfl
      have hcz11_8 : w3.cell? ⟨gb180, 8, none⟩ = some (.string a0_8) := (blk_cell BK180.out 8).trans rfl
      have hfz11_0 := blk_frozen BK180.out 0
      have hfz11_1 := blk_frozen BK180.out 1
      have hfz11_2 := blk_frozen BK180.out 2
      have hfz11_3 := blk_frozen BK180.out 3
      have hfz11_4 := blk_frozen BK180.out 4
      have hfz11_5 := blk_frozen BK180.out 5
      have hfz11_6 := blk_frozen BK180.out 6
      have hfz11_7 := blk_frozen BK180.out 7
      have hfz11_8 := blk_frozen BK180.out 8
      go_wp2
      go_meet
      case rel => exact ⟨_, (true), (by first | rfl | (simp; done) | (simp [pw_ne_nil, pw_eq_nil]; done) | (simp [*]; done)), H', ⟨by first | omega | exact Nat.le_refl _⟩, ⟨by (with_reducible repeat (first | refine blk_drewN ?_ _ | refine blk_drew ?_ | refine blk_alloc ?_ _)); exact BK180.out⟩, ⟨by repeat (first | (with_reducible first | exact HB.out | apply below_alloc | apply pw_below_drewN | apply below_drew1 | refine below_set ?_ GE180.out) | exact HB.out)⟩⟩
     ·rw [if_neg c10] at H
      have c10b0 : decide (99 < a0_1) = false := decide_eq_false c10
      clear c10
      by_cases c12 : a0_3 < 1
      ·rw [if_pos c12] at H
       have c12b0 : decide (a0_3 < 1) = true := decide_eq_true c12
       clear c12
       have H' := Aside0.mk H
       clear H
       have hcz13_0 : w3.cell? ⟨gb180, 0, none⟩ = some (.int .i64 a0_0) := (blk_cell BK180.out 0).trans rfl
       have hcz13_1 : w3.cell? ⟨gb180, 1, none⟩ = some (.int .i64 a0_1) := (blk_cell BK180.out 1).trans rfl
       have hcz13_2 : w3.cell? ⟨gb180, 2, none⟩ = some (.int .i64 a0_2) := (blk_cell BK180.out 2).trans rfl
       have hcz13_3 : w3.cell? ⟨gb180, 3, none⟩ = some (.int .i64 a0_3) := (blk_cell BK180.out 3).trans rfl
       have hcz13_4 : w3.cell? ⟨gb180, 4, none⟩ = some (.int .i64 a0_4) := (blk_cell BK180.out 4).trans rfl
       have hcz13_5 : w3.cell? ⟨gb180, 5, none⟩ = some (.string a0_5) := (blk_cell BK180.out 5).trans rfl
       have hcz13_6 : w3.cell? ⟨gb180, 6, none⟩ = some (.string a0_6) := (blk_cell BK180.out 6).trans rfl
       have hcz13_7 : w3.cell? ⟨gb180, 7, none⟩ = some (.string a0_7) := (blk_cell BK180.out 7).trans rfl
       have hcz13_8 : w3.cell? ⟨gb180, 8, none⟩ = some (.string a0_8) := (blk_cell BK180.out 8).trans rfl
       have hfz13_0 := blk_frozen BK180.out 0
       have hfz13_1 := blk_frozen BK180.out 1
       have hfz13_2 := blk_frozen BK180.out 2
       have hfz13_3 := blk_frozen BK180.out 3
       have hfz13_4 := blk_frozen BK180.out 4
       have hfz13_5 := blk_frozen BK180.out 5
       have hfz13_6 := blk_frozen BK180.out 6
       have hfz13_7 := blk_frozen BK180.out 7
       have hfz13_8 := blk_frozen BK180.out 8
       go_wp2
       go_meet
       case rel => exact ⟨_, (true), (by first | rfl | (simp; done) | (simp [pw_ne_nil, pw_eq_nil]; done) | (simp [*]; done)), H', ⟨by first | omega | exact Nat.le_refl _⟩, ⟨by (with_reducible repeat (first | refine blk_drewN ?_ _ | refine blk_drew ?_ | refine blk_alloc ?_ _)); exact BK180.out⟩, ⟨by repeat (first | (with_reducible first | exact HB.out | apply below_alloc | apply pw_below_drewN | apply below_drew1 | refine below_set ?_ GE180.out) | exact HB.out)⟩⟩
      ·rw [if_neg c12] at H
       have c12b0 : decide (a0_3 < 1) = false := decide_eq_false c12
       clear c12
       have H' := Aside0.mk H
       clear H
       have hcz14_0 : w3.cell? ⟨gb180, 0, none⟩ = some (.int .i64 a0_0) := (blk_cell BK180.out 0).trans rfl
       have hcz14_1 : w3.cell? ⟨gb180, 1, none⟩ = some (.int .i64 a0_1) := (blk_cell BK180.out 1).trans rfl
       have hcz14_2 : w3.cell? ⟨gb180, 2, none⟩ = some (.int .i64 a0_2) := (blk_cell BK180.out 2).trans rfl
       have hcz14_3 : w3.cell? ⟨gb180, 3, none⟩ = some (.int .i64 a0_3) := (blk_cell BK180.out 3).trans rfl
       have hcz14_4 : w3.cell? ⟨gb180, 4, none⟩ = some (.int .i64 a0_4) := (blk_cell BK180.out 4).trans rfl
       have hcz14_5 : w3.cell? ⟨gb180, 5, none⟩ = some (.string a0_5) := (blk_cell BK180.out 5).trans rfl
       have hcz14_6 : w3.cell? ⟨gb180, 6, none⟩ = some (.string a0_6) := (blk_cell BK180.out 6).trans rfl
       have hcz14_7 : w3.cell? ⟨gb180, 7, none⟩ = some (.string a0_7) := (blk_cell BK180.out 7).trans rfl
       have hcz14_8 : w3.cell? ⟨gb180, 8, none⟩ = some (.string a0_8) := (blk_cell BK180.out 8).trans rfl
       have hfz14_0 := blk_frozen BK180.out 0
       have hfz14_1 := blk_frozen BK180.out 1
       have hfz14_2 := blk_frozen BK180.out 2
       have hfz14_3 := blk_frozen BK180.out 3
       have hfz14_4 := blk_frozen BK180.out 4
       have hfz14_5 := blk_frozen BK180.out 5
       have hfz14_6 := blk_frozen BK180.out 6
       have hfz14_7 := blk_frozen BK180.out 7
       have hfz14_8 := blk_frozen BK180.out 8
       go_wp2
       go_meet
       case rel => exact ⟨_, (decide (a0_3 > 1000)), (by first | rfl | (simp; done) | (simp [pw_ne_nil, pw_eq_nil]; done) | (simp [*]; done)), H', ⟨by first | omega | exact Nat.le_refl _⟩, ⟨by (with_reducible repeat (first | refine blk_drewN ?_ _ | refine blk_drew ?_ | refine blk_alloc ?_ _)); exact BK180.out⟩, ⟨by repeat (first | (with_reducible first | exact HB.out | apply below_alloc | apply pw_below_drewN | apply below_drew1 | refine below_set ?_ GE180.out) | exact HB.out)⟩⟩
 case rest =>
  clear HC2
  try clear c1
  try clear p2
  try clear c4
  try clear c4b0
  try clear c6
  try clear c6b0
  try clear c8
  try clear c8b0
  try clear c9
  try clear c10
  try clear c10b0
  try clear c12
  try clear c12b0
  try clear hcz11_0
  try clear hcz11_1
  try clear hcz11_2
  try clear hcz11_3
  try clear hcz11_4
  try clear hcz11_5
  try clear hcz11_6
  try clear hcz11_7
  try clear hcz11_8
  try clear hcz13_0
  try clear hcz13_1
  try clear hcz13_2
  try clear hcz13_3
  try clear hcz13_4
  try clear hcz13_5
  try clear hcz13_6
  try clear hcz13_7
  try clear hcz13_8
  try clear hcz14_0
  try clear hcz14_1
  try clear hcz14_2
  try clear hcz14_3
  try clear hcz14_4
  try clear hcz14_5
  try clear hcz14_6
  try clear hcz14_7
  try clear hcz14_8
  try clear hcz5_0
  try clear hcz5_1
  try clear hcz5_2
  try clear hcz5_3
  try clear hcz5_4
  try clear hcz5_5
  try clear hcz5_6
  try clear hcz5_7
  try clear hcz5_8
  try clear hcz7_0
  try clear hcz7_1
  try clear hcz7_2
  try clear hcz7_3
  try clear hcz7_4
  try clear hcz7_5
  try clear hcz7_6
  try clear hcz7_7
  try clear hcz7_8
  try clear hcz9_0
  try clear hcz9_1
  try clear hcz9_2
  try clear hcz9_3
  try clear hcz9_4
  try clear hcz9_5
  try clear hcz9_6
  try clear hcz9_7
  try clear hcz9_8
  try clear hfz11_0
  try clear hfz11_1
  try clear hfz11_2
  try clear hfz11_3
  try clear hfz11_4
  try clear hfz11_5
  try clear hfz11_6
  try clear hfz11_7
  try clear hfz11_8
  try clear hfz13_0
  try clear hfz13_1
  try clear hfz13_2
  try clear hfz13_3
  try clear hfz13_4
  try clear hfz13_5
  try clear hfz13_6
  try clear hfz13_7
  try clear hfz13_8
  try clear hfz14_0
  try clear hfz14_1
  try clear hfz14_2
  try clear hfz14_3
  try clear hfz14_4
  try clear hfz14_5
  try clear hfz14_6
  try clear hfz14_7
  try clear hfz14_8
  try clear hfz5_0
  try clear hfz5_1
  try clear hfz5_2
  try clear hfz5_3
  try clear hfz5_4
  try clear hfz5_5
  try clear hfz5_6
  try clear hfz5_7
  try clear hfz5_8
  try clear hfz7_0
  try clear hfz7_1
  try clear hfz7_2
  try clear hfz7_3
  try clear hfz7_4
  try clear hfz7_5
  try clear hfz7_6
  try clear hfz7_7
  try clear hfz7_8
  try clear hfz9_0
  try clear hfz9_1
  try clear hfz9_2
  try clear hfz9_3
  try clear hfz9_4
  try clear hfz9_5
  try clear hfz9_6
  try clear hfz9_7
  try clear hfz9_8
  obtain ⟨kq, x36_1, rfl, HA, HJ1, BK180, HB⟩ := hcut
  cases kq with
  | zero => exact absurd HA.out (by simp [impl_GoodChange.j0])
  | succ kj1 =>
   have H := HA.out
   clear HA
   simp only [impl_GoodChange.j0] at H
   by_cases c15 : x36_1 = true
   ·subst c15
    have H1 : (some false) = some r := by rw [if_pos rfl] at H; exact H
    clear H
    have H := H1
    clear H1
    obtain rfl := Option.some.inj H
    go_wp2
    go_ret
    exact ⟨by first | rfl | (simp [errW_none, errW_some] <;> rfl) | (simp [*, errW_none, errW_some] <;> rfl), by repeat (first | (with_reducible first | exact HB.out | apply below_alloc | apply pw_below_drewN | apply below_drew1 | refine below_set ?_ GE180.out) | exact HB.out)⟩
   ·replace c15 := Bool.eq_false_iff.mpr c15
    subst c15
    have H1 : (if a0_4 = 0 then (impl_GoodChange.j1 kj1 (a0_5.toList == ([] : List UInt8) && (a0_6.toList == ([] : List UInt8))) a0_0 a0_1 a0_2 a0_3 a0_4 a0_5 a0_6 a0_7 a0_8) else (impl_GoodChange.j1 kj1 false a0_0 a0_1 a0_2 a0_3 a0_4 a0_5 a0_6 a0_7 a0_8)) = some r := by rw [if_neg (show ¬ (false = true) by decide)] at H; exact H
    clear H
    have H := H1
    clear H1
    have HC16 := Aside0.mk H
    clear H
    go_upto_region 3 with (fail)
    go_cut [3] (fun v3 wc => ∃ (kq : Nat) (x3_15 : Bool), v3 = .bool x3_15 ∧ Aside0 (impl_GoodChange.j1 kq x3_15 a0_0 a0_1 a0_2 a0_3 a0_4 a0_5 a0_6 a0_7 a0_8 = some r) ∧ Aside0 (kq ≤ kj1) ∧ Aside0 (wc.heap[gb180]? = some (.cells #[.int .i64 a0_0, .int .i64 a0_1, .int .i64 a0_2, .int .i64 a0_3, .int .i64 a0_4, .string a0_5, .string a0_6, .string a0_7, .string a0_8] 95 (0, 0))) ∧ Aside0 (Below w.heap.size w wc))
    case first =>
     have H := HC16.out
     clear HC16
     by_cases c17 : a0_4 = 0
     ·rw [if_pos c17] at H
      have c17b0 : (a0_4 == 0) = true := beq_iff_eq.mpr c17
      have c17b1 : (a0_4 != 0) = false := bne_eq_false_iff_eq.mpr c17
      clear c17
      (first | rw [c17b0] | (simp only [i64_w, i32_w]; rw [c17b0]) | skip)
      have H' := Aside0.mk H
      clear H
      have hcz18_0 : wc.cell? ⟨gb180, 0, none⟩ = some (.int .i64 a0_0) := (blk_cell BK180.out 0).trans rfl
      have hcz18_1 : wc.cell? ⟨gb180, 1, none⟩ = some (.int .i64 a0_1) := (blk_cell BK180.out 1).trans rfl
      have hcz18_2 : wc.cell? ⟨gb180, 2, none⟩ = some (.int .i64 a0_2) := (blk_cell BK180.out 2).trans rfl
      have hcz18_3 : wc.cell? ⟨gb180, 3, none⟩ = some (.int .i64 a0_3) := (blk_cell BK180.out 3).trans rfl
      have hcz18_4 : wc.cell? ⟨gb180, 4, none⟩ = some (.int .i64 a0_4) := (blk_cell BK180.out 4).trans rfl
      have hcz18_5 : wc.cell? ⟨gb180, 5, none⟩ = some (.string a0_5) := (blk_cell BK180.out 5).trans rfl
      have hcz18_6 : wc.cell? ⟨gb180, 6, none⟩ = some (.string a0_6) := (blk_cell BK180.out 6).trans rfl
      have hcz18_7 : wc.cell? ⟨gb180, 7, none⟩ = some (.string a0_7) := (blk_cell BK180.out 7).trans rfl
      have hcz18_8 : wc.cell? ⟨gb180, 8, none⟩ = some (.string a0_8) := (blk_cell BK180.out 8).trans rfl
      have hfz18_0 := blk_frozen BK180.out 0
      have hfz18_1 := blk_frozen BK180.out 1
      have hfz18_2 := blk_frozen BK180.out 2
      have hfz18_3 := blk_frozen BK180.out 3
      have hfz18_4 := blk_frozen BK180.out 4
      have hfz18_5 := blk_frozen BK180.out 5
      have hfz18_6 := blk_frozen BK180.out 6
      have hfz18_7 := blk_frozen BK180.out 7
      have hfz18_8 := blk_frozen BK180.out 8
      go_wp2
      go_meet
      case rel => exact ⟨_, ((a0_5.toList == ([] : List UInt8) && (a0_6.toList == ([] : List UInt8)))), (by first | rfl | (simp; done) | (simp [pw_ne_nil, pw_eq_nil]; done) | (simp [*]; done)), H', ⟨by have := HJ1.out; first | omega | exact Nat.le_refl _⟩, ⟨by (with_reducible repeat (first | refine blk_drewN ?_ _ | refine blk_drew ?_ | refine blk_alloc ?_ _)); exact BK180.out⟩, ⟨by repeat (first | (with_reducible first | exact HB.out | apply below_alloc | apply pw_below_drewN | apply below_drew1 | refine below_set ?_ GE180.out) | exact HB.out)⟩⟩
     ·rw [if_neg c17] at H
      have c17b0 : (a0_4 == 0) = false := beq_eq_false_iff_ne.mpr c17
      have c17b1 : (a0_4 != 0) = true := bne_iff_ne.mpr c17
      (first | rw [c17b0] | (simp only [i64_w, i32_w]; rw [c17b0]) | skip)
      have H' := Aside0.mk H
      clear H
      have hcz19_0 : wc.cell? ⟨gb180, 0, none⟩ = some (.int .i64 a0_0) := (blk_cell BK180.out 0).trans rfl
      have hcz19_1 : wc.cell? ⟨gb180, 1, none⟩ = some (.int .i64 a0_1) := (blk_cell BK180.out 1).trans rfl
      have hcz19_2 : wc.cell? ⟨gb180, 2, none⟩ = some (.int .i64 a0_2) := (blk_cell BK180.out 2).trans rfl
      have hcz19_3 : wc.cell? ⟨gb180, 3, none⟩ = some (.int .i64 a0_3) := (blk_cell BK180.out 3).trans rfl
      have hcz19_4 : wc.cell? ⟨gb180, 4, none⟩ = some (.int .i64 a0_4) := (blk_cell BK180.out 4).trans rfl
      have hcz19_5 : wc.cell? ⟨gb180, 5, none⟩ = some (.string a0_5) := (blk_cell BK180.out 5).trans rfl
      have hcz19_6 : wc.cell? ⟨gb180, 6, none⟩ = some (.string a0_6) := (blk_cell BK180.out 6).trans rfl
      have hcz19_7 : wc.cell? ⟨gb180, 7, none⟩ = some (.string a0_7) := (blk_cell BK180.out 7).trans rfl
      have hcz19_8 : wc.cell? ⟨gb180, 8, none⟩ = some (.string a0_8) := (blk_cell BK180.out 8).trans rfl
      have hfz19_0 := blk_frozen BK180.out 0
      have hfz19_1 := blk_frozen BK180.out 1
      have hfz19_2 := blk_frozen BK180.out 2
      have hfz19_3 := blk_frozen BK180.out 3
      have hfz19_4 := blk_frozen BK180.out 4
      have hfz19_5 := blk_frozen BK180.out 5
      have hfz19_6 := blk_frozen BK180.out 6
      have hfz19_7 := blk_frozen BK180.out 7
      have hfz19_8 := blk_frozen BK180.out 8
      go_wp2
      go_meet
      case rel => exact ⟨_, (false), (by first | rfl | (simp; done) | (simp [pw_ne_nil, pw_eq_nil]; done) | (simp [*]; done)), H', ⟨by have := HJ1.out; first | omega | exact Nat.le_refl _⟩, ⟨by (with_reducible repeat (first | refine blk_drewN ?_ _ | refine blk_drew ?_ | refine blk_alloc ?_ _)); exact BK180.out⟩, ⟨by repeat (first | (with_reducible first | exact HB.out | apply below_alloc | apply pw_below_drewN | apply below_drew1 | refine below_set ?_ GE180.out) | exact HB.out)⟩⟩
    case rest =>
     clear HC16
     try clear c1
     try clear p2
     try clear c4
     try clear c4b0
     try clear c6
     try clear c6b0
     try clear c8
     try clear c8b0
     try clear c9
     try clear c10
     try clear c10b0
     try clear c12
     try clear c12b0
     try clear c15
     try clear c17
     try clear c17b0
     try clear c17b1
     try clear hcz11_0
     try clear hcz11_1
     try clear hcz11_2
     try clear hcz11_3
     try clear hcz11_4
     try clear hcz11_5
     try clear hcz11_6
     try clear hcz11_7
     try clear hcz11_8
     try clear hcz13_0
     try clear hcz13_1
     try clear hcz13_2
     try clear hcz13_3
     try clear hcz13_4
     try clear hcz13_5
     try clear hcz13_6
     try clear hcz13_7
     try clear hcz13_8
     try clear hcz14_0
     try clear hcz14_1
     try clear hcz14_2
     try clear hcz14_3
     try clear hcz14_4
     try clear hcz14_5
     try clear hcz14_6
     try clear hcz14_7
     try clear hcz14_8
     try clear hcz18_0
     try clear hcz18_1
     try clear hcz18_2
     try clear hcz18_3
     try clear hcz18_4
     try clear hcz18_5
     try clear hcz18_6
     try clear hcz18_7
     try clear hcz18_8
     try clear hcz19_0
     try clear hcz19_1
     try clear hcz19_2
     try clear hcz19_3
     try clear hcz19_4
     try clear hcz19_5
     try clear hcz19_6
     try clear hcz19_7
     try clear hcz19_8
     try clear hcz5_0
     try clear hcz5_1
     try clear hcz5_2
     try clear hcz5_3
     try clear hcz5_4
     try clear hcz5_5
     try clear hcz5_6
     try clear hcz5_7
     try clear hcz5_8
     try clear hcz7_0
     try clear hcz7_1
     try clear hcz7_2
     try clear hcz7_3
     try clear hcz7_4
     try clear hcz7_5
     try clear hcz7_6
     try clear hcz7_7
     try clear hcz7_8
     try clear hcz9_0
     try clear hcz9_1
     try clear hcz9_2
     try clear hcz9_3
     try clear hcz9_4
     try clear hcz9_5
     try clear hcz9_6
     try clear hcz9_7
     try clear hcz9_8
     try clear hfz11_0
     try clear hfz11_1
     try clear hfz11_2
     try clear hfz11_3
     try clear hfz11_4
     try clear hfz11_5
     try clear hfz11_6
     try clear hfz11_7
     try clear hfz11_8
     try clear hfz13_0
     try clear hfz13_1
     try clear hfz13_2
     try clear hfz13_3
     try clear hfz13_4
     try clear hfz13_5
     try clear hfz13_6
     try clear hfz13_7
     try clear hfz13_8
     try clear hfz14_0
     try clear hfz14_1
     try clear hfz14_2
     try clear hfz14_3
     try clear hfz14_4
     try clear hfz14_5
     try clear hfz14_6
     try clear hfz14_7
     try clear hfz14_8
     try clear hfz18_0
     try clear hfz18_1
     try clear hfz18_2
     try clear hfz18_3
     try clear hfz18_4
     try clear hfz18_5
     try clear hfz18_6
     try clear hfz18_7
     try clear hfz18_8
     try clear hfz19_0
     try clear hfz19_1
     try clear hfz19_2
     try clear hfz19_3
     try clear hfz19_4
     try clear hfz19_5
     try clear hfz19_6
     try clear hfz19_7
     try clear hfz19_8
     try clear hfz5_0
     try clear hfz5_1
     try clear hfz5_2
     try clear hfz5_3
     try clear hfz5_4
     try clear hfz5_5
     try clear hfz5_6
     try clear hfz5_7
     try clear hfz5_8
     try clear hfz7_0
     try clear hfz7_1
     try clear hfz7_2
     try clear hfz7_3
     try clear hfz7_4
     try clear hfz7_5
     try clear hfz7_6
     try clear hfz7_7
     try clear hfz7_8
     try clear hfz9_0
     try clear hfz9_1
     try clear hfz9_2
     try clear hfz9_3
     try clear hfz9_4
     try clear hfz9_5
     try clear hfz9_6
     try clear hfz9_7
     try clear hfz9_8
     try clear p2
     obtain ⟨kq, x3_15, rfl, HA, HJ15, BK180, HB⟩ := hcut
     cases kq with
     | zero => exact absurd HA.out (by simp [impl_GoodChange.j1])
     | succ kj15 =>
      have H := HA.out
      clear HA
      simp only [impl_GoodChange.j1] at H
      have HC20 := Aside0.mk H
      clear H
      go_upto_region 4 with (fail)
      go_cut [4] (fun v4 wc => ∃ (kq : Nat) (x4_19 : Bool), v4 = .bool x4_19 ∧ Aside0 (impl_GoodChange.j2 kq x3_15 x4_19 a0_0 a0_1 a0_2 a0_3 a0_4 a0_5 a0_6 a0_7 a0_8 = some r) ∧ Aside0 (kq ≤ kj15) ∧ Aside0 (wc.heap[gb180]? = some (.cells #[.int .i64 a0_0, .int .i64 a0_1, .int .i64 a0_2, .int .i64 a0_3, .int .i64 a0_4, .string a0_5, .string a0_6, .string a0_7, .string a0_8] 95 (0, 0))) ∧ Aside0 (Below w.heap.size w wc))
      case first =>
       have H := HC20.out
       clear HC20
       by_cases c21 : a0_7.toList = ([] : List UInt8)
       ·rw [if_pos c21] at H
        have c21b0 : (a0_7.toList == ([] : List UInt8)) = true := beq_iff_eq.mpr c21
        have c21b1 : (a0_7.toList != ([] : List UInt8)) = false := bne_eq_false_iff_eq.mpr c21
        clear c21
        (first | rw [c21b0] | (simp only [i64_w, i32_w]; rw [c21b0]) | skip)
        have H' := Aside0.mk H
        clear H
        have hcz22_0 : wc.cell? ⟨gb180, 0, none⟩ = some (.int .i64 a0_0) := (blk_cell BK180.out 0).trans rfl
        have hcz22_1 : wc.cell? ⟨gb180, 1, none⟩ = some (.int .i64 a0_1) := (blk_cell BK180.out 1).trans rfl
        have hcz22_2 : wc.cell? ⟨gb180, 2, none⟩ = some (.int .i64 a0_2) := (blk_cell BK180.out 2).trans rfl
        have hcz22_3 : wc.cell? ⟨gb180, 3, none⟩ = some (.int .i64 a0_3) := (blk_cell BK180.out 3).trans rfl
        have hcz22_4 : wc.cell? ⟨gb180, 4, none⟩ = some (.int .i64 a0_4) := (blk_cell BK180.out 4).trans rfl
        have hcz22_5 : wc.cell? ⟨gb180, 5, none⟩ = some (.string a0_5) := (blk_cell BK180.out 5).trans rfl
        have hcz22_6 : wc.cell? ⟨gb180, 6, none⟩ = some (.string a0_6) := (blk_cell BK180.out 6).trans rfl
        have hcz22_7 : wc.cell? ⟨gb180, 7, none⟩ = some (.string a0_7) := (blk_cell BK180.out 7).trans rfl
        have hcz22_8 : wc.cell? ⟨gb180, 8, none⟩ = some (.string a0_8) := (blk_cell BK180.out 8).trans rfl
        have hfz22_0 := blk_frozen BK180.out 0
        have hfz22_1 := blk_frozen BK180.out 1
        have hfz22_2 := blk_frozen BK180.out 2
        have hfz22_3 := blk_frozen BK180.out 3
        have hfz22_4 := blk_frozen BK180.out 4
        have hfz22_5 := blk_frozen BK180.out 5
        have hfz22_6 := blk_frozen BK180.out 6
        have hfz22_7 := blk_frozen BK180.out 7
        have hfz22_8 := blk_frozen BK180.out 8
        go_wp2
        go_meet
        case rel => exact ⟨_, ((a0_8.toList == ([] : List UInt8))), (by first | rfl | (simp; done) | (simp [pw_ne_nil, pw_eq_nil]; done) | (simp [*]; done)), H', ⟨by have := HJ1.out; have := HJ15.out; first | omega | exact Nat.le_refl _⟩, ⟨by (with_reducible repeat (first | refine blk_drewN ?_ _ | refine blk_drew ?_ | refine blk_alloc ?_ _)); exact BK180.out⟩, ⟨by repeat (first | (with_reducible first | exact HB.out | apply below_alloc | apply pw_below_drewN | apply below_drew1 | refine below_set ?_ GE180.out) | exact HB.out)⟩⟩
       ·rw [if_neg c21] at H
        have c21b0 : (a0_7.toList == ([] : List UInt8)) = false := beq_eq_false_iff_ne.mpr c21
        have c21b1 : (a0_7.toList != ([] : List UInt8)) = true := bne_iff_ne.mpr c21
        (first | rw [c21b0] | (simp only [i64_w, i32_w]; rw [c21b0]) | skip)
        have H' := Aside0.mk H
        clear H
        have hcz23_0 : wc.cell? ⟨gb180, 0, none⟩ = some (.int .i64 a0_0) := (blk_cell BK180.out 0).trans rfl
        have hcz23_1 : wc.cell? ⟨gb180, 1, none⟩ = some (.int .i64 a0_1) := (blk_cell BK180.out 1).trans rfl
        have hcz23_2 : wc.cell? ⟨gb180, 2, none⟩ = some (.int .i64 a0_2) := (blk_cell BK180.out 2).trans rfl
        have hcz23_3 : wc.cell? ⟨gb180, 3, none⟩ = some (.int .i64 a0_3) := (blk_cell BK180.out 3).trans rfl
        have hcz23_4 : wc.cell? ⟨gb180, 4, none⟩ = some (.int .i64 a0_4) := (blk_cell BK180.out 4).trans rfl
        have hcz23_5 : wc.cell? ⟨gb180, 5, none⟩ = some (.string a0_5) := (blk_cell BK180.out 5).trans rfl
        have hcz23_6 : wc.cell? ⟨gb180, 6, none⟩ = some (.string a0_6) := (blk_cell BK180.out 6).trans rfl
        have hcz23_7 : wc.cell? ⟨gb180, 7, none⟩ = some (.string a0_7) := (blk_cell BK180.out 7).trans rfl
        have hcz23_8 : wc.cell? ⟨gb180, 8, none⟩ = some (.string a0_8) := (blk_cell BK180.out 8).trans rfl
        have hfz23_0 := blk_frozen BK180.out 0
        have hfz23_1 := blk_frozen BK180.out 1
        have hfz23_2 := blk_frozen BK180.out 2
        have hfz23_3 := blk_frozen BK180.out 3
        have hfz23_4 := blk_frozen BK180.out 4
        have hfz23_5 := blk_frozen BK180.out 5
        have hfz23_6 := blk_frozen BK180.out 6
        have hfz23_7 := blk_frozen BK180.out 7
        have hfz23_8 := blk_frozen BK180.out 8
        go_wp2
        go_meet
        case rel => exact ⟨_, (false), (by first | rfl | (simp; done) | (simp [pw_ne_nil, pw_eq_nil]; done) | (simp [*]; done)), H', ⟨by have := HJ1.out; have := HJ15.out; first | omega | exact Nat.le_refl _⟩, ⟨by (with_reducible repeat (first | refine blk_drewN ?_ _ | refine blk_drew ?_ | refine blk_alloc ?_ _)); exact BK180.out⟩, ⟨by repeat (first | (with_reducible first | exact HB.out | apply below_alloc | apply pw_below_drewN | apply below_drew1 | refine below_set ?_ GE180.out) | exact HB.out)⟩⟩
      case rest =>
       clear HC20
       try clear c1
       try clear c2
       try clear p2
       try clear c4
       try clear c4b0
       try clear c6
       try clear c6b0
       try clear c8
       try clear c8b0
       try clear c9
       try clear c10
       try clear c10b0
       try clear c12
       try clear c12b0
       try clear c15
       try clear c17
       try clear c17b0
       try clear c17b1
       try clear c21
       try clear c21b0
       try clear c21b1
       try clear hcz11_0
       try clear hcz11_1
       try clear hcz11_2
       try clear hcz11_3
       try clear hcz11_4
       try clear hcz11_5
       try clear hcz11_6
       try clear hcz11_7
       try clear hcz11_8
       try clear hcz13_0
       try clear hcz13_1
       try clear hcz13_2
       try clear hcz13_3
       try clear hcz13_4
       try clear hcz13_5
       try clear hcz13_6
       try clear hcz13_7
       try clear hcz13_8
       try clear hcz14_0
       try clear hcz14_1
       try clear hcz14_2
       try clear hcz14_3
       try clear hcz14_4
       try clear hcz14_5
       try clear hcz14_6
       try clear hcz14_7
       try clear hcz14_8
       try clear hcz18_0
       try clear hcz18_1
       try clear hcz18_2
       try clear hcz18_3
       try clear hcz18_4
       try clear hcz18_5
       try clear hcz18_6
       try clear hcz18_7
       try clear hcz18_8
       try clear hcz19_0
       try clear hcz19_1
       try clear hcz19_2
       try clear hcz19_3
       try clear hcz19_4
       try clear hcz19_5
       try clear hcz19_6
       try clear hcz19_7
       try clear hcz19_8
       try clear hcz22_0
       try clear hcz22_1
       try clear hcz22_2
       try clear hcz22_3
       try clear hcz22_4
       try clear hcz22_5
       try clear hcz22_6
       try clear hcz22_7
       try clear hcz22_8
       try clear hcz23_0
       try clear hcz23_1
       try clear hcz23_2
       try clear hcz23_3
       try clear hcz23_4
       try clear hcz23_5
       try clear hcz23_6
       try clear hcz23_7
       try clear hcz23_8
       try clear hcz5_0
       try clear hcz5_1
       try clear hcz5_2
       try clear hcz5_3
       try clear hcz5_4
       try clear hcz5_5
       try clear hcz5_6
       try clear hcz5_7
       try clear hcz5_8
       try clear hcz7_0
       try clear hcz7_1
       try clear hcz7_2
       try clear hcz7_3
       try clear hcz7_4
       try clear hcz7_5
       try clear hcz7_6
       try clear hcz7_7
       try clear hcz7_8
       try clear hcz9_0
       try clear hcz9_1
       try clear hcz9_2
       try clear hcz9_3
       try clear hcz9_4
       try clear hcz9_5
       try clear hcz9_6
       try clear hcz9_7
       try clear hcz9_8
       try clear hfz11_0
       try clear hfz11_1
       try clear hfz11_2
       try clear hfz11_3
       try clear hfz11_4
       try clear hfz11_5
       try clear hfz11_6
       try clear hfz11_7
       try clear hfz11_8
       try clear hfz13_0
       try clear hfz13_1
       try clear hfz13_2
       try clear hfz13_3
       try clear hfz13_4
       try clear hfz13_5
       try clear hfz13_6
       try clear hfz13_7
       try clear hfz13_8
       try clear hfz14_0
       try clear hfz14_1
       try clear hfz14_2
       try clear hfz14_3
       try clear hfz14_4
       try clear hfz14_5
       try clear hfz14_6
       try clear hfz14_7
       try clear hfz14_8
       try clear hfz18_0
       try clear hfz18_1
       try clear hfz18_2
       try clear hfz18_3
       try clear hfz18_4
       try clear hfz18_5
       try clear hfz18_6
       try clear hfz18_7
       try clear hfz18_8
       try clear hfz19_0
       try clear hfz19_1
       try clear hfz19_2
       try clear hfz19_3
       try clear hfz19_4
       try clear hfz19_5
       try clear hfz19_6
       try clear hfz19_7
       try clear hfz19_8
       try clear hfz22_0
       try clear hfz22_1
       try clear hfz22_2
       try clear hfz22_3
       try clear hfz22_4
       try clear hfz22_5
       try clear hfz22_6
       try clear hfz22_7
       try clear hfz22_8
       try clear hfz23_0
       try clear hfz23_1
       try clear hfz23_2
       try clear hfz23_3
       try clear hfz23_4
       try clear hfz23_5
       try clear hfz23_6
       try clear hfz23_7
       try clear hfz23_8
       try clear hfz5_0
       try clear hfz5_1
       try clear hfz5_2
       try clear hfz5_3
       try clear hfz5_4
       try clear hfz5_5
       try clear hfz5_6
       try clear hfz5_7
       try clear hfz5_8
       try clear hfz7_0
       try clear hfz7_1
       try clear hfz7_2
       try clear hfz7_3
       try clear hfz7_4
       try clear hfz7_5
       try clear hfz7_6
       try clear hfz7_7
       try clear hfz7_8
       try clear hfz9_0
       try clear hfz9_1
       try clear hfz9_2
       try clear hfz9_3
       try clear hfz9_4
       try clear hfz9_5
       try clear hfz9_6
       try clear hfz9_7
       try clear hfz9_8
       try clear p2
       obtain ⟨kq, x4_19, rfl, HA, HJ19, BK180, HB⟩ := hcut
       cases kq with
       | zero => exact absurd HA.out (by simp [impl_GoodChange.j2])
       | succ kj19 =>
        have H := HA.out
        clear HA
        simp only [impl_GoodChange.j2] at H
        by_cases c24 : a0_2 = 1
        ·rw [if_pos c24] at H
         have c24b0 : (a0_2 == 1) = true := beq_iff_eq.mpr c24
         have c24b1 : (a0_2 != 1) = false := bne_eq_false_iff_eq.mpr c24
         clear c24
         by_cases c25 : x4_19 = true
         ·subst c25
          have H1 : (if a0_4 ≥ 0 then (if a0_4 ≤ 1000 then ((impl_ygoodPart.f kj19 a0_5 a0_6 50).bind fun t181 => (if t181 = true then ((strings_Contains.f a0_6 (⟨#[126]⟩ : ByteArray)).bind fun t182 => (some (!t182))) else (some false))) else (some false)) else (some false)) = some r := by rw [if_pos rfl] at H; exact H
          clear H
          have H := H1
          clear H1
          by_cases c26 : a0_4 ≥ 0
          ·rw [if_pos c26] at H
           have c26b0 : decide (0 ≤ a0_4) = true := decide_eq_true c26
           clear c26
           by_cases c27 : a0_4 ≤ 1000
           ·rw [if_pos c27] at H
            have c27b0 : decide (a0_4 ≤ 1000) = true := decide_eq_true c27
            clear c27
            replace H := Option.bind_eq_some_iff.mp H
            obtain ⟨t181, A280, H⟩ := H
            replace H : (if t181 = true then ((strings_Contains.f a0_6 (⟨#[126]⟩ : ByteArray)).bind fun t182 => (some (!t182))) else (some false)) = some r := H
            have A28 := Aside0.mk A280
            clear A280
            by_cases c29 : t181 = true
            ·subst c29
             have H1 : ((strings_Contains.f a0_6 (⟨#[126]⟩ : ByteArray)).bind fun t182 => (some (!t182))) = some r := by rw [if_pos rfl] at H; exact H
             clear H
             have H := H1
             clear H1
             replace H := Option.bind_eq_some_iff.mp H
             obtain ⟨t182, A300, H⟩ := H
             replace H : (some (!t182)) = some r := H
             have A30 := Aside0.mk A300
             clear A300
             obtain rfl := Option.some.inj H
             have hcz31_0 : wc.cell? ⟨gb180, 0, none⟩ = some (.int .i64 a0_0) := (blk_cell BK180.out 0).trans rfl
             have hcz31_1 : wc.cell? ⟨gb180, 1, none⟩ = some (.int .i64 a0_1) := (blk_cell BK180.out 1).trans rfl
             have hcz31_2 : wc.cell? ⟨gb180, 2, none⟩ = some (.int .i64 a0_2) := (blk_cell BK180.out 2).trans rfl
             have hcz31_3 : wc.cell? ⟨gb180, 3, none⟩ = some (.int .i64 a0_3) := (blk_cell BK180.out 3).trans rfl
             have hcz31_4 : wc.cell? ⟨gb180, 4, none⟩ = some (.int .i64 a0_4) := (blk_cell BK180.out 4).trans rfl
             have hcz31_5 : wc.cell? ⟨gb180, 5, none⟩ = some (.string a0_5) := (blk_cell BK180.out 5).trans rfl
             have hcz31_6 : wc.cell? ⟨gb180, 6, none⟩ = some (.string a0_6) := (blk_cell BK180.out 6).trans rfl
             have hcz31_7 : wc.cell? ⟨gb180, 7, none⟩ = some (.string a0_7) := (blk_cell BK180.out 7).trans rfl
             have hcz31_8 : wc.cell? ⟨gb180, 8, none⟩ = some (.string a0_8) := (blk_cell BK180.out 8).trans rfl
             have hfz31_0 := blk_frozen BK180.out 0
             have hfz31_1 := blk_frozen BK180.out 1
             have hfz31_2 := blk_frozen BK180.out 2
             have hfz31_3 := blk_frozen BK180.out 3
             have hfz31_4 := blk_frozen BK180.out 4
             have hfz31_5 := blk_frozen BK180.out 5
             have hfz31_6 := blk_frozen BK180.out 6
             have hfz31_7 := blk_frozen BK180.out 7
             have hfz31_8 := blk_frozen BK180.out 8
             go_wp2_with (first | (go_at_call 113; (with_reducible refine (impl_ygoodPart.calls kj19 a0_5 a0_6 50 true _ A28.out).mono ?_); rintro e w32 ⟨rfl, hb⟩; have n0_ := Aside0.mk (blk_below (g := gb180) (o := .cells #[.int .i64 a0_0, .int .i64 a0_1, .int .i64 a0_2, .int .i64 a0_3, .int .i64 a0_4, .string a0_5, .string a0_6, .string a0_7, .string a0_8] 95 (0, 0)) (by (with_reducible repeat (first | refine blk_drewN ?_ _ | refine blk_drew ?_ | refine blk_alloc ?_ _)); exact BK180.out) hb); have n1_ := Aside0.mk (below_step (by repeat (first | (with_reducible first | exact HB.out | apply below_alloc | apply pw_below_drewN | apply below_drew1 | refine below_set ?_ GE180.out) | exact HB.out)) hb); clear BK180; clear HB; have BK180 := n0_; have HB := n1_; clear n0_ n1_; (try clear hb); (try clear hb2); (try clear hk); (try clear hi); have hcz33_0 : w32.cell? ⟨gb180, 0, none⟩ = some (.int .i64 a0_0) := (blk_cell BK180.out 0).trans rfl; have hcz33_1 : w32.cell? ⟨gb180, 1, none⟩ = some (.int .i64 a0_1) := (blk_cell BK180.out 1).trans rfl; have hcz33_2 : w32.cell? ⟨gb180, 2, none⟩ = some (.int .i64 a0_2) := (blk_cell BK180.out 2).trans rfl; have hcz33_3 : w32.cell? ⟨gb180, 3, none⟩ = some (.int .i64 a0_3) := (blk_cell BK180.out 3).trans rfl; have hcz33_4 : w32.cell? ⟨gb180, 4, none⟩ = some (.int .i64 a0_4) := (blk_cell BK180.out 4).trans rfl; have hcz33_5 : w32.cell? ⟨gb180, 5, none⟩ = some (.string a0_5) := (blk_cell BK180.out 5).trans rfl; have hcz33_6 : w32.cell? ⟨gb180, 6, none⟩ = some (.string a0_6) := (blk_cell BK180.out 6).trans rfl; have hcz33_7 : w32.cell? ⟨gb180, 7, none⟩ = some (.string a0_7) := (blk_cell BK180.out 7).trans rfl; have hcz33_8 : w32.cell? ⟨gb180, 8, none⟩ = some (.string a0_8) := (blk_cell BK180.out 8).trans rfl; have hfz33_0 := blk_frozen BK180.out 0; have hfz33_1 := blk_frozen BK180.out 1; have hfz33_2 := blk_frozen BK180.out 2; have hfz33_3 := blk_frozen BK180.out 3; have hfz33_4 := blk_frozen BK180.out 4; have hfz33_5 := blk_frozen BK180.out 5; have hfz33_6 := blk_frozen BK180.out 6; have hfz33_7 := blk_frozen BK180.out 7; have hfz33_8 := blk_frozen BK180.out 8) | (go_at_call 130; (with_reducible refine (strings_Contains.calls a0_6 (⟨#[126]⟩ : ByteArray) t182 _ A30.out).mono ?_); rintro e w' ⟨rfl, ⟨nd, rfl⟩⟩))
             go_ret
             exact ⟨by first | rfl | (simp [errW_none, errW_some] <;> rfl) | (simp [*, errW_none, errW_some] <;> rfl), by repeat (first | (with_reducible first | exact HB.out | apply below_alloc | apply pw_below_drewN | apply below_drew1 | refine below_set ?_ GE180.out) | exact HB.out)⟩
            ·replace c29 := Bool.eq_false_iff.mpr c29
             subst c29
             have H1 : (some false) = some r := by rw [if_neg (show ¬ (false = true) by decide)] at H; exact H
             clear H
             have H := H1
             clear H1
             obtain rfl := Option.some.inj H
             have hcz34_0 : wc.cell? ⟨gb180, 0, none⟩ = some (.int .i64 a0_0) := (blk_cell BK180.out 0).trans rfl
             have hcz34_1 : wc.cell? ⟨gb180, 1, none⟩ = some (.int .i64 a0_1) := (blk_cell BK180.out 1).trans rfl
             have hcz34_2 : wc.cell? ⟨gb180, 2, none⟩ = some (.int .i64 a0_2) := (blk_cell BK180.out 2).trans rfl
             have hcz34_3 : wc.cell? ⟨gb180, 3, none⟩ = some (.int .i64 a0_3) := (blk_cell BK180.out 3).trans rfl
             have hcz34_4 : wc.cell? ⟨gb180, 4, none⟩ = some (.int .i64 a0_4) := (blk_cell BK180.out 4).trans rfl
             have hcz34_5 : wc.cell? ⟨gb180, 5, none⟩ = some (.string a0_5) := (blk_cell BK180.out 5).trans rfl
             have hcz34_6 : wc.cell? ⟨gb180, 6, none⟩ = some (.string a0_6) := (blk_cell BK180.out 6).trans rfl
             have hcz34_7 : wc.cell? ⟨gb180, 7, none⟩ = some (.string a0_7) := (blk_cell BK180.out 7).trans rfl
             have hcz34_8 : wc.cell? ⟨gb180, 8, none⟩ = some (.string a0_8) := (blk_cell BK180.out 8).trans rfl
             have hfz34_0 := blk_frozen BK180.out 0
             have hfz34_1 := blk_frozen BK180.out 1
             have hfz34_2 := blk_frozen BK180.out 2
             have hfz34_3 := blk_frozen BK180.out 3
             have hfz34_4 := blk_frozen BK180.out 4
             have hfz34_5 := blk_frozen BK180.out 5
             have hfz34_6 := blk_frozen BK180.out 6
             have hfz34_7 := blk_frozen BK180.out 7
             have hfz34_8 := blk_frozen BK180.out 8
             go_wp2_with (first | (go_at_call 113; (with_reducible refine (impl_ygoodPart.calls kj19 a0_5 a0_6 50 false _ A28.out).mono ?_); rintro e w35 ⟨rfl, hb⟩; have n0_ := Aside0.mk (blk_below (g := gb180) (o := .cells #[.int .i64 a0_0, .int .i64 a0_1, .int .i64 a0_2, .int .i64 a0_3, .int .i64 a0_4, .string a0_5, .string a0_6, .string a0_7, .string a0_8] 95 (0, 0)) (by (with_reducible repeat (first | refine blk_drewN ?_ _ | refine blk_drew ?_ | refine blk_alloc ?_ _)); exact BK180.out) hb); have n1_ := Aside0.mk (below_step (by repeat (first | (with_reducible first | exact HB.out | apply below_alloc | apply pw_below_drewN | apply below_drew1 | refine below_set ?_ GE180.out) | exact HB.out)) hb); clear BK180; clear HB; have BK180 := n0_; have HB := n1_; clear n0_ n1_; (try clear hb); (try clear hb2); (try clear hk); (try clear hi)))
             go_ret
             exact ⟨by first | rfl | (simp [errW_none, errW_some] <;> rfl) | (simp [*, errW_none, errW_some] <;> rfl), by repeat (first | (with_reducible first | exact HB.out | apply below_alloc | apply pw_below_drewN | apply below_drew1 | refine below_set ?_ GE180.out) | exact HB.out)⟩
           ·rw [if_neg c27] at H
            have c27b0 : decide (a0_4 ≤ 1000) = false := decide_eq_false c27
            clear c27
            obtain rfl := Option.some.inj H
            have hcz36_0 : wc.cell? ⟨gb180, 0, none⟩ = some (.int .i64 a0_0) := (blk_cell BK180.out 0).trans rfl
            have hcz36_1 : wc.cell? ⟨gb180, 1, none⟩ = some (.int .i64 a0_1) := (blk_cell BK180.out 1).trans rfl
            have hcz36_2 : wc.cell? ⟨gb180, 2, none⟩ = some (.int .i64 a0_2) := (blk_cell BK180.out 2).trans rfl
            have hcz36_3 : wc.cell? ⟨gb180, 3, none⟩ = some (.int .i64 a0_3) := (blk_cell BK180.out 3).trans rfl
            have hcz36_4 : wc.cell? ⟨gb180, 4, none⟩ = some (.int .i64 a0_4) := (blk_cell BK180.out 4).trans rfl
            have hcz36_5 : wc.cell? ⟨gb180, 5, none⟩ = some (.string a0_5) := (blk_cell BK180.out 5).trans rfl
            have hcz36_6 : wc.cell? ⟨gb180, 6, none⟩ = some (.string a0_6) := (blk_cell BK180.out 6).trans rfl
            have hcz36_7 : wc.cell? ⟨gb180, 7, none⟩ = some (.string a0_7) := (blk_cell BK180.out 7).trans rfl
            have hcz36_8 : wc.cell? ⟨gb180, 8, none⟩ = some (.string a0_8) := (blk_cell BK180.out 8).trans rfl
            have hfz36_0 := blk_frozen BK180.out 0
            have hfz36_1 := blk_frozen BK180.out 1
            have hfz36_2 := blk_frozen BK180.out 2
            have hfz36_3 := blk_frozen BK180.out 3
            have hfz36_4 := blk_frozen BK180.out 4
            have hfz36_5 := blk_frozen BK180.out 5
            have hfz36_6 := blk_frozen BK180.out 6
            have hfz36_7 := blk_frozen BK180.out 7
            have hfz36_8 := blk_frozen BK180.out 8
            go_wp2
            go_ret
            exact ⟨by first | rfl | (simp [errW_none, errW_some] <;> rfl) | (simp [*, errW_none, errW_some] <;> rfl), by repeat (first | (with_reducible first | exact HB.out | apply below_alloc | apply pw_below_drewN | apply below_drew1 | refine below_set ?_ GE180.out) | exact HB.out)⟩
          ·rw [if_neg c26] at H
           have c26b0 : decide (0 ≤ a0_4) = false := decide_eq_false c26
           clear c26
           obtain rfl := Option.some.inj H
           have hcz37_0 : wc.cell? ⟨gb180, 0, none⟩ = some (.int .i64 a0_0) := (blk_cell BK180.out 0).trans rfl
           have hcz37_1 : wc.cell? ⟨gb180, 1, none⟩ = some (.int .i64 a0_1) := (blk_cell BK180.out 1).trans rfl
           have hcz37_2 : wc.cell? ⟨gb180, 2, none⟩ = some (.int .i64 a0_2) := (blk_cell BK180.out 2).trans rfl
           have hcz37_3 : wc.cell? ⟨gb180, 3, none⟩ = some (.int .i64 a0_3) := (blk_cell BK180.out 3).trans rfl
           have hcz37_4 : wc.cell? ⟨gb180, 4, none⟩ = some (.int .i64 a0_4) := (blk_cell BK180.out 4).trans rfl
           have hcz37_5 : wc.cell? ⟨gb180, 5, none⟩ = some (.string a0_5) := (blk_cell BK180.out 5).trans rfl
           have hcz37_6 : wc.cell? ⟨gb180, 6, none⟩ = some (.string a0_6) := (blk_cell BK180.out 6).trans rfl
           have hcz37_7 : wc.cell? ⟨gb180, 7, none⟩ = some (.string a0_7) := (blk_cell BK180.out 7).trans rfl
           have hcz37_8 : wc.cell? ⟨gb180, 8, none⟩ = some (.string a0_8) := (blk_cell BK180.out 8).trans rfl
           have hfz37_0 := blk_frozen BK180.out 0
           have hfz37_1 := blk_frozen BK180.out 1
           have hfz37_2 := blk_frozen BK180.out 2
           have hfz37_3 := blk_frozen BK180.out 3
           have hfz37_4 := blk_frozen BK180.out 4
           have hfz37_5 := blk_frozen BK180.out 5
           have hfz37_6 := blk_frozen BK180.out 6
           have hfz37_7 := blk_frozen BK180.out 7
           have hfz37_8 := blk_frozen BK180.out 8
           go_wp2
           go_ret
           exact ⟨by first | rfl | (simp [errW_none, errW_some] <;> rfl) | (simp [*, errW_none, errW_some] <;> rfl), by repeat (first | (with_reducible first | exact HB.out | apply below_alloc | apply pw_below_drewN | apply below_drew1 | refine below_set ?_ GE180.out) | exact HB.out)⟩
         ·replace c25 := Bool.eq_false_iff.mpr c25
          subst c25
          have H1 : (some false) = some r := by rw [if_neg (show ¬ (false = true) by decide)] at H; exact H
          clear H
          have H := H1
          clear H1
          obtain rfl := Option.some.inj H
          have hcz38_0 : wc.cell? ⟨gb180, 0, none⟩ = some (.int .i64 a0_0) := (blk_cell BK180.out 0).trans rfl
          have hcz38_1 : wc.cell? ⟨gb180, 1, none⟩ = some (.int .i64 a0_1) := (blk_cell BK180.out 1).trans rfl
          have hcz38_2 : wc.cell? ⟨gb180, 2, none⟩ = some (.int .i64 a0_2) := (blk_cell BK180.out 2).trans rfl
          have hcz38_3 : wc.cell? ⟨gb180, 3, none⟩ = some (.int .i64 a0_3) := (blk_cell BK180.out 3).trans rfl
          have hcz38_4 : wc.cell? ⟨gb180, 4, none⟩ = some (.int .i64 a0_4) := (blk_cell BK180.out 4).trans rfl
          have hcz38_5 : wc.cell? ⟨gb180, 5, none⟩ = some (.string a0_5) := (blk_cell BK180.out 5).trans rfl
          have hcz38_6 : wc.cell? ⟨gb180, 6, none⟩ = some (.string a0_6) := (blk_cell BK180.out 6).trans rfl
          have hcz38_7 : wc.cell? ⟨gb180, 7, none⟩ = some (.string a0_7) := (blk_cell BK180.out 7).trans rfl
          have hcz38_8 : wc.cell? ⟨gb180, 8, none⟩ = some (.string a0_8) := (blk_cell BK180.out 8).trans rfl
          have hfz38_0 := blk_frozen BK180.out 0
          have hfz38_1 := blk_frozen BK180.out 1
          have hfz38_2 := blk_frozen BK180.out 2
          have hfz38_3 := blk_frozen BK180.out 3
          have hfz38_4 := blk_frozen BK180.out 4
          have hfz38_5 := blk_frozen BK180.out 5
          have hfz38_6 := blk_frozen BK180.out 6
          have hfz38_7 := blk_frozen BK180.out 7
          have hfz38_8 := blk_frozen BK180.out 8
          go_wp2
          go_ret
          exact ⟨by first | rfl | (simp [errW_none, errW_some] <;> rfl) | (simp [*, errW_none, errW_some] <;> rfl), by repeat (first | (with_reducible first | exact HB.out | apply below_alloc | apply pw_below_drewN | apply below_drew1 | refine below_set ?_ GE180.out) | exact HB.out)⟩
        ·rw [if_neg c24] at H
         have c24b0 : (a0_2 == 1) = false := beq_eq_false_iff_ne.mpr c24
         have c24b1 : (a0_2 != 1) = true := bne_iff_ne.mpr c24
         have HC39 := Aside0.mk H
         clear H
         have hcz40_0 : wc.cell? ⟨gb180, 0, none⟩ = some (.int .i64 a0_0) := (blk_cell BK180.out 0).trans rfl
         have hcz40_1 : wc.cell? ⟨gb180, 1, none⟩ = some (.int .i64 a0_1) := (blk_cell BK180.out 1).trans rfl
         have hcz40_2 : wc.cell? ⟨gb180, 2, none⟩ = some (.int .i64 a0_2) := (blk_cell BK180.out 2).trans rfl
         have hcz40_3 : wc.cell? ⟨gb180, 3, none⟩ = some (.int .i64 a0_3) := (blk_cell BK180.out 3).trans rfl
         have hcz40_4 : wc.cell? ⟨gb180, 4, none⟩ = some (.int .i64 a0_4) := (blk_cell BK180.out 4).trans rfl
         have hcz40_5 : wc.cell? ⟨gb180, 5, none⟩ = some (.string a0_5) := (blk_cell BK180.out 5).trans rfl
         have hcz40_6 : wc.cell? ⟨gb180, 6, none⟩ = some (.string a0_6) := (blk_cell BK180.out 6).trans rfl
         have hcz40_7 : wc.cell? ⟨gb180, 7, none⟩ = some (.string a0_7) := (blk_cell BK180.out 7).trans rfl
         have hcz40_8 : wc.cell? ⟨gb180, 8, none⟩ = some (.string a0_8) := (blk_cell BK180.out 8).trans rfl
         have hfz40_0 := blk_frozen BK180.out 0
         have hfz40_1 := blk_frozen BK180.out 1
         have hfz40_2 := blk_frozen BK180.out 2
         have hfz40_3 := blk_frozen BK180.out 3
         have hfz40_4 := blk_frozen BK180.out 4
         have hfz40_5 := blk_frozen BK180.out 5
         have hfz40_6 := blk_frozen BK180.out 6
         have hfz40_7 := blk_frozen BK180.out 7
         have hfz40_8 := blk_frozen BK180.out 8
         go_upto_if 81 with (fail)
         go_cut [81] (fun v81 wc => ∃ (kq : Nat) (x81_38 : Bool), v81 = .bool x81_38 ∧ Aside0 (impl_GoodChange.j3 kq x3_15 x4_19 a0_2 x81_38 a0_0 a0_1 a0_2 a0_3 a0_4 a0_5 a0_6 a0_7 a0_8 = some r) ∧ Aside0 (kq ≤ kj19) ∧ Aside0 (wc.heap[gb180]? = some (.cells #[.int .i64 a0_0, .int .i64 a0_1, .int .i64 a0_2, .int .i64 a0_3, .int .i64 a0_4, .string a0_5, .string a0_6, .string a0_7, .string a0_8] 95 (0, 0))) ∧ Aside0 (Below w.heap.size w wc))
         case first =>
          have H := HC39.out
          clear HC39
          by_cases c41 : a0_2 = 2
          ·rw [if_pos c41] at H
           have c41b0 : (a0_2 == 2) = true := beq_iff_eq.mpr c41
           have c41b1 : (a0_2 != 2) = false := bne_eq_false_iff_eq.mpr c41
           clear c41
           (first | rw [c41b0] | (simp only [i64_w, i32_w]; rw [c41b0]) | skip)
           have H' := Aside0.mk H
           clear H
           go_wp2
           go_meet
           case rel => exact ⟨_, ((a0_2 == 2)), (by first | rfl | (simp; done) | (simp [pw_ne_nil, pw_eq_nil]; done) | (simp [*]; done)), H', ⟨by have := HJ1.out; have := HJ15.out; have := HJ19.out; first | omega | exact Nat.le_refl _⟩, ⟨by (with_reducible repeat (first | refine blk_drewN ?_ _ | refine blk_drew ?_ | refine blk_alloc ?_ _)); exact BK180.out⟩, ⟨by repeat (first | (with_reducible first | exact HB.out | apply below_alloc | apply pw_below_drewN | apply below_drew1 | refine below_set ?_ GE180.out) | exact HB.out)⟩⟩
          ·rw [if_neg c41] at H
           have c41b0 : (a0_2 == 2) = false := beq_eq_false_iff_ne.mpr c41
           have c41b1 : (a0_2 != 2) = true := bne_iff_ne.mpr c41
           (first | rw [c41b0] | (simp only [i64_w, i32_w]; rw [c41b0]) | skip)
           have H' := Aside0.mk H
           clear H
           go_wp2
           go_meet
           case rel => exact ⟨_, ((a0_2 == 3)), (by first | rfl | (simp; done) | (simp [pw_ne_nil, pw_eq_nil]; done) | (simp [*]; done)), H', ⟨by have := HJ1.out; have := HJ15.out; have := HJ19.out; first | omega | exact Nat.le_refl _⟩, ⟨by (with_reducible repeat (first | refine blk_drewN ?_ _ | refine blk_drew ?_ | refine blk_alloc ?_ _)); exact BK180.out⟩, ⟨by repeat (first | (with_reducible first | exact HB.out | apply below_alloc | apply pw_below_drewN | apply below_drew1 | refine below_set ?_ GE180.out) | exact HB.out)⟩⟩
         case rest =>
          clear HC39
          try clear c1
          try clear c2
          try clear p2
          try clear c4
          try clear c4b0
          try clear c6
          try clear c6b0
          try clear c8
          try clear c8b0
          try clear c9
          try clear c10
          try clear c10b0
          try clear c12
          try clear c12b0
          try clear c15
          try clear c17
          try clear c17b0
          try clear c17b1
          try clear c21
          try clear c21b0
          try clear c21b1
          try clear c24
          try clear c24b0
          try clear c24b1
          try clear c25
          try clear c26
          try clear c26b0
          try clear c27
          try clear c27b0
          try clear c29
          try clear c41
          try clear c41b0
          try clear c41b1
          try clear hcz11_0
          try clear hcz11_1
          try clear hcz11_2
          try clear hcz11_3
          try clear hcz11_4
          try clear hcz11_5
          try clear hcz11_6
          try clear hcz11_7
          try clear hcz11_8
          try clear hcz13_0
          try clear hcz13_1
          try clear hcz13_2
          try clear hcz13_3
          try clear hcz13_4
          try clear hcz13_5
          try clear hcz13_6
          try clear hcz13_7
          try clear hcz13_8
          try clear hcz14_0
          try clear hcz14_1
          try clear hcz14_2
          try clear hcz14_3
          try clear hcz14_4
          try clear hcz14_5
          try clear hcz14_6
          try clear hcz14_7
          try clear hcz14_8
          try clear hcz18_0
          try clear hcz18_1
          try clear hcz18_2
          try clear hcz18_3
          try clear hcz18_4
          try clear hcz18_5
          try clear hcz18_6
          try clear hcz18_7
          try clear hcz18_8
          try clear hcz19_0
          try clear hcz19_1
          try clear hcz19_2
          try clear hcz19_3
          try clear hcz19_4
          try clear hcz19_5
          try clear hcz19_6
          try clear hcz19_7
          try clear hcz19_8
          try clear hcz22_0
          try clear hcz22_1
          try clear hcz22_2
          try clear hcz22_3
          try clear hcz22_4
          try clear hcz22_5
          try clear hcz22_6
          try clear hcz22_7
          try clear hcz22_8
          try clear hcz23_0
          try clear hcz23_1
          try clear hcz23_2
          try clear hcz23_3
          try clear hcz23_4
          try clear hcz23_5
          try clear hcz23_6
          try clear hcz23_7
          try clear hcz23_8
          try clear hcz31_0
          try clear hcz31_1
          try clear hcz31_2
          try clear hcz31_3
          try clear hcz31_4
          try clear hcz31_5
          try clear hcz31_6
          try clear hcz31_7
          try clear hcz31_8
          try clear hcz33_0
          try clear hcz33_1
          try clear hcz33_2
          try clear hcz33_3
          try clear hcz33_4
          try clear hcz33_5
          try clear hcz33_6
          try clear hcz33_7
          try clear hcz33_8
          try clear hcz34_0
          try clear hcz34_1
          try clear hcz34_2
          try clear hcz34_3
          try clear hcz34_4
          try clear hcz34_5
          try clear hcz34_6
          try clear hcz34_7
          try clear hcz34_8
          try clear hcz36_0
          try clear hcz36_1
          try clear hcz36_2
          try clear hcz36_3
          try clear hcz36_4
          try clear hcz36_5
          try clear hcz36_6
          try clear hcz36_7
          try clear hcz36_8
          try clear hcz37_0
          try clear hcz37_1
          try clear hcz37_2
          try clear hcz37_3
          try clear hcz37_4
          try clear hcz37_5
          try clear hcz37_6
          try clear hcz37_7
          try clear hcz37_8
          try clear hcz38_0
          try clear hcz38_1
          try clear hcz38_2
          try clear hcz38_3
          try clear hcz38_4
          try clear hcz38_5
          try clear hcz38_6
          try clear hcz38_7
          try clear hcz38_8
          try clear hcz40_0
          try clear hcz40_1
          try clear hcz40_2
          try clear hcz40_3
          try clear hcz40_4
          try clear hcz40_5
          try clear hcz40_6
          try clear hcz40_7
          try clear hcz40_8
          try clear hcz5_0
          try clear hcz5_1
          try clear hcz5_2
          try clear hcz5_3
          try clear hcz5_4
          try clear hcz5_5
          try clear hcz5_6
          try clear hcz5_7
          try clear hcz5_8
          try clear hcz7_0
          try clear hcz7_1
          try clear hcz7_2
          try clear hcz7_3
          try clear hcz7_4
          try clear hcz7_5
          try clear hcz7_6
          try clear hcz7_7
          try clear hcz7_8
          try clear hcz9_0
          try clear hcz9_1
          try clear hcz9_2
          try clear hcz9_3
          try clear hcz9_4
          try clear hcz9_5
          try clear hcz9_6
          try clear hcz9_7
          try clear hcz9_8
          try clear hfz11_0
          try clear hfz11_1
          try clear hfz11_2
          try clear hfz11_3
          try clear hfz11_4
          try clear hfz11_5
          try clear hfz11_6
          try clear hfz11_7
          try clear hfz11_8
          try clear hfz13_0
          try clear hfz13_1
          try clear hfz13_2
          try clear hfz13_3
          try clear hfz13_4
          try clear hfz13_5
          try clear hfz13_6
          try clear hfz13_7
          try clear hfz13_8
          try clear hfz14_0
          try clear hfz14_1
          try clear hfz14_2
          try clear hfz14_3
          try clear hfz14_4
          try clear hfz14_5
          try clear hfz14_6
          try clear hfz14_7
          try clear hfz14_8
          try clear hfz18_0
          try clear hfz18_1
          try clear hfz18_2
          try clear hfz18_3
          try clear hfz18_4
          try clear hfz18_5
          try clear hfz18_6
          try clear hfz18_7
          try clear hfz18_8
          try clear hfz19_0
          try clear hfz19_1
          try clear hfz19_2
          try clear hfz19_3
          try clear hfz19_4
          try clear hfz19_5
          try clear hfz19_6
          try clear hfz19_7
          try clear hfz19_8
          try clear hfz22_0
          try clear hfz22_1
          try clear hfz22_2
          try clear hfz22_3
          try clear hfz22_4
          try clear hfz22_5
          try clear hfz22_6
          try clear hfz22_7
          try clear hfz22_8
          try clear hfz23_0
          try clear hfz23_1
          try clear hfz23_2
          try clear hfz23_3
          try clear hfz23_4
          try clear hfz23_5
          try clear hfz23_6
          try clear hfz23_7
          try clear hfz23_8
          try clear hfz31_0
          try clear hfz31_1
          try clear hfz31_2
          try clear hfz31_3
          try clear hfz31_4
          try clear hfz31_5
          try clear hfz31_6
          try clear hfz31_7
          try clear hfz31_8
          try clear hfz33_0
          try clear hfz33_1
          try clear hfz33_2
          try clear hfz33_3
          try clear hfz33_4
          try clear hfz33_5
          try clear hfz33_6
          try clear hfz33_7
          try clear hfz33_8
          try clear hfz34_0
          try clear hfz34_1
          try clear hfz34_2
          try clear hfz34_3
          try clear hfz34_4
          try clear hfz34_5
          try clear hfz34_6
          try clear hfz34_7
          try clear hfz34_8
          try clear hfz36_0
          try clear hfz36_1
          try clear hfz36_2
          try clear hfz36_3
          try clear hfz36_4
          try clear hfz36_5
          try clear hfz36_6
          try clear hfz36_7
          try clear hfz36_8
          try clear hfz37_0
          try clear hfz37_1
          try clear hfz37_2
          try clear hfz37_3
          try clear hfz37_4
          try clear hfz37_5
          try clear hfz37_6
          try clear hfz37_7
          try clear hfz37_8
          try clear hfz38_0
          try clear hfz38_1
          try clear hfz38_2
          try clear hfz38_3
          try clear hfz38_4
          try clear hfz38_5
          try clear hfz38_6
          try clear hfz38_7
          try clear hfz38_8
          try clear hfz40_0
          try clear hfz40_1
          try clear hfz40_2
          try clear hfz40_3
          try clear hfz40_4
          try clear hfz40_5
          try clear hfz40_6
          try clear hfz40_7
          try clear hfz40_8
          try clear hfz5_0
          try clear hfz5_1
          try clear hfz5_2
          try clear hfz5_3
          try clear hfz5_4
          try clear hfz5_5
          try clear hfz5_6
          try clear hfz5_7
          try clear hfz5_8
          try clear hfz7_0
          try clear hfz7_1
          try clear hfz7_2
          try clear hfz7_3
          try clear hfz7_4
          try clear hfz7_5
          try clear hfz7_6
          try clear hfz7_7
          try clear hfz7_8
          try clear hfz9_0
          try clear hfz9_1
          try clear hfz9_2
          try clear hfz9_3
          try clear hfz9_4
          try clear hfz9_5
          try clear hfz9_6
          try clear hfz9_7
          try clear hfz9_8
          try clear p2
          obtain ⟨kq, x81_38, rfl, HA, HJ38, BK180, HB⟩ := hcut
          cases kq with
          | zero => exact absurd HA.out (by simp [impl_GoodChange.j3])
          | succ kj38 =>
           have H := HA.out
           clear HA
           simp only [impl_GoodChange.j3] at H
           by_cases c42 : x81_38 = true
           ·subst c42
            have H1 : (if x3_15 = true then ((impl_GoodName.f kj38 a0_7).bind fun t183 => (if t183 = true then ((impl_yprinted.f kj38 a0_8 1 200).bind fun t184 => (some t184)) else (some false))) else (some false)) = some r := by rw [if_pos rfl] at H; exact H
            clear H
            have H := H1
            clear H1
            by_cases c43 : x3_15 = true
            ·subst c43
             have H1 : ((impl_GoodName.f kj38 a0_7).bind fun t183 => (if t183 = true then ((impl_yprinted.f kj38 a0_8 1 200).bind fun t184 => (some t184)) else (some false))) = some r := by rw [if_pos rfl] at H; exact H
             clear H
             have H := H1
             clear H1
             replace H := Option.bind_eq_some_iff.mp H
             obtain ⟨t183, A440, H⟩ := H
             replace H : (if t183 = true then ((impl_yprinted.f kj38 a0_8 1 200).bind fun t184 => (some t184)) else (some false)) = some r := H
             have A44 := Aside0.mk A440
             clear A440
             by_cases c45 : t183 = true
             ·subst c45
              have H1 : ((impl_yprinted.f kj38 a0_8 1 200).bind fun t184 => (some t184)) = some r := by rw [if_pos rfl] at H; exact H
              clear H
              have H := H1
              clear H1
              replace H := Option.bind_eq_some_iff.mp H
              obtain ⟨t184, A460, H⟩ := H
              replace H : (some t184) = some r := H
              have A46 := Aside0.mk A460
              clear A460
              obtain rfl := Option.some.inj H
              have hcz47_0 : wc.cell? ⟨gb180, 0, none⟩ = some (.int .i64 a0_0) := (blk_cell BK180.out 0).trans rfl
              have hcz47_1 : wc.cell? ⟨gb180, 1, none⟩ = some (.int .i64 a0_1) := (blk_cell BK180.out 1).trans rfl
              have hcz47_2 : wc.cell? ⟨gb180, 2, none⟩ = some (.int .i64 a0_2) := (blk_cell BK180.out 2).trans rfl
              have hcz47_3 : wc.cell? ⟨gb180, 3, none⟩ = some (.int .i64 a0_3) := (blk_cell BK180.out 3).trans rfl
              have hcz47_4 : wc.cell? ⟨gb180, 4, none⟩ = some (.int .i64 a0_4) := (blk_cell BK180.out 4).trans rfl
              have hcz47_5 : wc.cell? ⟨gb180, 5, none⟩ = some (.string a0_5) := (blk_cell BK180.out 5).trans rfl
              have hcz47_6 : wc.cell? ⟨gb180, 6, none⟩ = some (.string a0_6) := (blk_cell BK180.out 6).trans rfl
              have hcz47_7 : wc.cell? ⟨gb180, 7, none⟩ = some (.string a0_7) := (blk_cell BK180.out 7).trans rfl
              have hcz47_8 : wc.cell? ⟨gb180, 8, none⟩ = some (.string a0_8) := (blk_cell BK180.out 8).trans rfl
              have hfz47_0 := blk_frozen BK180.out 0
              have hfz47_1 := blk_frozen BK180.out 1
              have hfz47_2 := blk_frozen BK180.out 2
              have hfz47_3 := blk_frozen BK180.out 3
              have hfz47_4 := blk_frozen BK180.out 4
              have hfz47_5 := blk_frozen BK180.out 5
              have hfz47_6 := blk_frozen BK180.out 6
              have hfz47_7 := blk_frozen BK180.out 7
              have hfz47_8 := blk_frozen BK180.out 8
              go_wp2_with (first | (go_at_call 56; (with_reducible refine (impl_GoodName.calls kj38 a0_7 true _ A44.out).mono ?_); rintro e w' ⟨rfl, ⟨nd, rfl⟩⟩) | (go_at_call 106; (with_reducible refine (impl_yprinted.calls kj38 a0_8 1 200 t184 _ A46.out).mono ?_); rintro e w' ⟨rfl, ⟨nd, rfl⟩⟩))
              go_ret
              exact ⟨by first | rfl | (simp [errW_none, errW_some] <;> rfl) | (simp [*, errW_none, errW_some] <;> rfl), by repeat (first | (with_reducible first | exact HB.out | apply below_alloc | apply pw_below_drewN | apply below_drew1 | refine below_set ?_ GE180.out) | exact HB.out)⟩
             ·replace c45 := Bool.eq_false_iff.mpr c45
              subst c45
              have H1 : (some false) = some r := by rw [if_neg (show ¬ (false = true) by decide)] at H; exact H
              clear H
              have H := H1
              clear H1
              obtain rfl := Option.some.inj H
              have hcz48_0 : wc.cell? ⟨gb180, 0, none⟩ = some (.int .i64 a0_0) := (blk_cell BK180.out 0).trans rfl
              have hcz48_1 : wc.cell? ⟨gb180, 1, none⟩ = some (.int .i64 a0_1) := (blk_cell BK180.out 1).trans rfl
              have hcz48_2 : wc.cell? ⟨gb180, 2, none⟩ = some (.int .i64 a0_2) := (blk_cell BK180.out 2).trans rfl
              have hcz48_3 : wc.cell? ⟨gb180, 3, none⟩ = some (.int .i64 a0_3) := (blk_cell BK180.out 3).trans rfl
              have hcz48_4 : wc.cell? ⟨gb180, 4, none⟩ = some (.int .i64 a0_4) := (blk_cell BK180.out 4).trans rfl
              have hcz48_5 : wc.cell? ⟨gb180, 5, none⟩ = some (.string a0_5) := (blk_cell BK180.out 5).trans rfl
              have hcz48_6 : wc.cell? ⟨gb180, 6, none⟩ = some (.string a0_6) := (blk_cell BK180.out 6).trans rfl
              have hcz48_7 : wc.cell? ⟨gb180, 7, none⟩ = some (.string a0_7) := (blk_cell BK180.out 7).trans rfl
              have hcz48_8 : wc.cell? ⟨gb180, 8, none⟩ = some (.string a0_8) := (blk_cell BK180.out 8).trans rfl
              have hfz48_0 := blk_frozen BK180.out 0
              have hfz48_1 := blk_frozen BK180.out 1
              have hfz48_2 := blk_frozen BK180.out 2
              have hfz48_3 := blk_frozen BK180.out 3
              have hfz48_4 := blk_frozen BK180.out 4
              have hfz48_5 := blk_frozen BK180.out 5
              have hfz48_6 := blk_frozen BK180.out 6
              have hfz48_7 := blk_frozen BK180.out 7
              have hfz48_8 := blk_frozen BK180.out 8
              go_wp2_with (first | (go_at_call 56; (with_reducible refine (impl_GoodName.calls kj38 a0_7 false _ A44.out).mono ?_); rintro e w' ⟨rfl, ⟨nd, rfl⟩⟩))
              go_ret
              exact ⟨by first | rfl | (simp [errW_none, errW_some] <;> rfl) | (simp [*, errW_none, errW_some] <;> rfl), by repeat (first | (with_reducible first | exact HB.out | apply below_alloc | apply pw_below_drewN | apply below_drew1 | refine below_set ?_ GE180.out) | exact HB.out)⟩
            ·replace c43 := Bool.eq_false_iff.mpr c43
             subst c43
             have H1 : (some false) = some r := by rw [if_neg (show ¬ (false = true) by decide)] at H; exact H
             clear H
             have H := H1
             clear H1
             obtain rfl := Option.some.inj H
             go_wp2
             go_ret
             exact ⟨by first | rfl | (simp [errW_none, errW_some] <;> rfl) | (simp [*, errW_none, errW_some] <;> rfl), by repeat (first | (with_reducible first | exact HB.out | apply below_alloc | apply pw_below_drewN | apply below_drew1 | refine below_set ?_ GE180.out) | exact HB.out)⟩
           ·replace c42 := Bool.eq_false_iff.mpr c42
            subst c42
            have H1 : (if a0_2 = 4 then (if x3_15 = true then (some x4_19) else (some false)) else (some false)) = some r := by rw [if_neg (show ¬ (false = true) by decide)] at H; exact H
            clear H
            have H := H1
            clear H1
            by_cases c49 : a0_2 = 4
            ·rw [if_pos c49] at H
             have c49b0 : (a0_2 == 4) = true := beq_iff_eq.mpr c49
             have c49b1 : (a0_2 != 4) = false := bne_eq_false_iff_eq.mpr c49
             clear c49
             by_cases c50 : x3_15 = true
             ·subst c50
              have H1 : (some x4_19) = some r := by rw [if_pos rfl] at H; exact H
              clear H
              have H := H1
              clear H1
              obtain rfl := Option.some.inj H
              go_wp2
              go_ret
              exact ⟨by first | rfl | (simp [errW_none, errW_some] <;> rfl) | (simp [*, errW_none, errW_some] <;> rfl), by repeat (first | (with_reducible first | exact HB.out | apply below_alloc | apply pw_below_drewN | apply below_drew1 | refine below_set ?_ GE180.out) | exact HB.out)⟩
             ·replace c50 := Bool.eq_false_iff.mpr c50
              subst c50
              have H1 : (some false) = some r := by rw [if_neg (show ¬ (false = true) by decide)] at H; exact H
              clear H
              have H := H1
              clear H1
              obtain rfl := Option.some.inj H
              go_wp2
              go_ret
              exact ⟨by first | rfl | (simp [errW_none, errW_some] <;> rfl) | (simp [*, errW_none, errW_some] <;> rfl), by repeat (first | (with_reducible first | exact HB.out | apply below_alloc | apply pw_below_drewN | apply below_drew1 | refine below_set ?_ GE180.out) | exact HB.out)⟩
            ·rw [if_neg c49] at H
             have c49b0 : (a0_2 == 4) = false := beq_eq_false_iff_ne.mpr c49
             have c49b1 : (a0_2 != 4) = true := bne_iff_ne.mpr c49
             obtain rfl := Option.some.inj H
             go_wp2
             go_ret
             exact ⟨by first | rfl | (simp [errW_none, errW_some] <;> rfl) | (simp [*, errW_none, errW_some] <;> rfl), by repeat (first | (with_reducible first | exact HB.out | apply below_alloc | apply pw_below_drewN | apply below_drew1 | refine below_set ?_ GE180.out) | exact HB.out)⟩

end Go.Proofs.Ytcgiegkcmofhhab.PFnExactVectorOf
