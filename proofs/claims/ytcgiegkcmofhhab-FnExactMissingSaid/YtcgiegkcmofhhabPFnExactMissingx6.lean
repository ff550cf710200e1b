-- Written for this claim by a program of this session, which goes by the kit's print and takes contracts proved by hand.
import Derived.Test.YtcgiegkcmofhhabPFnExactMissingx0
import Derived.Test.YtcgiegkcmofhhabPFnExactMissingx1
import Derived.Test.YtcgiegkcmofhhabPFnExactMissingx4
import Derived.Test.YtcgiegkcmofhhabPFnExactMissingx5
namespace Go.Proofs.Ytcgiegkcmofhhab.PFnExactMissing
open Go.RowKit Go.Proofs.YtcgiegkcmofhhabW.PrintWords Go.Proofs.YtcgiegkcmofhhabW.PrintLast Go.Proofs.YtcgiegkcmofhhabW.PrintMore
attribute [local go_sem] max2_int min2_int max_two min_two max_three min_three max_four min_four   -- for this text's walks alone
set_option linter.unusedVariables false
set_option linter.unusedSimpArgs false

attribute [local go_sem high] eqA93
/-! ### spec_GoodChange: function 92 -/
mutual
def spec_GoodChange.j0 : Nat → Bool → Int → Int → Int → Int → Int → ByteArray → ByteArray → ByteArray → ByteArray → Option (Bool)
 | 0, _, _, _, _, _, _, _, _, _, _ => none
 | k + 1, x36, x169000, x169001, x169002, x169003, x169004, x169005, x169006, x169007, x169008 => if x36 = true then (some false) else (if x169004 = 0 then (spec_GoodChange.j1 k (x169005.toList == ([] : List UInt8) && (x169006.toList == ([] : List UInt8))) x169000 x169001 x169002 x169003 x169004 x169005 x169006 x169007 x169008) else (spec_GoodChange.j1 k false x169000 x169001 x169002 x169003 x169004 x169005 x169006 x169007 x169008))
def spec_GoodChange.j1 : Nat → Bool → Int → Int → Int → Int → Int → ByteArray → ByteArray → ByteArray → ByteArray → Option (Bool)
 | 0, _, _, _, _, _, _, _, _, _, _ => none
 | k + 1, x3, x169000, x169001, x169002, x169003, x169004, x169005, x169006, x169007, x169008 => if x169007.toList = ([] : List UInt8) then (spec_GoodChange.j2 k x3 (x169008.toList == ([] : List UInt8)) x169000 x169001 x169002 x169003 x169004 x169005 x169006 x169007 x169008) else (spec_GoodChange.j2 k x3 false x169000 x169001 x169002 x169003 x169004 x169005 x169006 x169007 x169008)
def spec_GoodChange.j2 : Nat → Bool → Bool → Int → Int → Int → Int → Int → ByteArray → ByteArray → ByteArray → ByteArray → Option (Bool)
 | 0, _, _, _, _, _, _, _, _, _, _, _ => none
 | k + 1, x3, x4, x169000, x169001, x169002, x169003, x169004, x169005, x169006, x169007, x169008 => if x169002 = 1 then (if x4 = true then (if x169004 ≥ 0 then (if x169004 ≤ 1000 then ((spec_GoodName.f k x169005).bind fun t169 => (if t169 = true then (if (x169006.size : Int) ≥ 1 then (if (x169006.size : Int) ≤ 50 then ((spec_l1Printed.f k x169006).bind fun t170 => (if t170 = true then ((spec_l4Tilde.f k x169006).bind fun t171 => (some (!t171))) else (some false))) else (some false)) else (some false)) else (some false))) else (some false)) else (some false)) else (some false)) else (if x169002 = 2 then (spec_GoodChange.j3 k x3 x4 x169002 (x169002 == 2) x169000 x169001 x169002 x169003 x169004 x169005 x169006 x169007 x169008) else (spec_GoodChange.j3 k x3 x4 x169002 (x169002 == 3) x169000 x169001 x169002 x169003 x169004 x169005 x169006 x169007 x169008))
def spec_GoodChange.j3 : Nat → Bool → Bool → Int → Bool → Int → Int → Int → Int → Int → ByteArray → ByteArray → ByteArray → ByteArray → Option (Bool)
 | 0, _, _, _, _, _, _, _, _, _, _, _, _, _ => none
 | k + 1, x3, x4, x55, x102, x169000, x169001, x169002, x169003, x169004, x169005, x169006, x169007, x169008 => if x102 = true then (if x3 = true then ((spec_GoodName.f k x169007).bind fun t172 => (if t172 = true then (if (x169008.size : Int) ≥ 1 then (if (x169008.size : Int) ≤ 200 then ((spec_l1Printed.f k x169008).bind fun t173 => (some t173)) else (some false)) else (some false)) else (some false))) else (some false)) else (if x55 = 4 then (if x3 = true then (some x4) else (some false)) else (some false))
end
def spec_GoodChange.f (k : Nat) (a0_0 : Int) (a0_1 : Int) (a0_2 : Int) (a0_3 : Int) (a0_4 : Int) (a0_5 : ByteArray) (a0_6 : ByteArray) (a0_7 : ByteArray) (a0_8 : ByteArray) : Option (Bool) := if a0_0 < 1 then (spec_GoodChange.j0 k true a0_0 a0_1 a0_2 a0_3 a0_4 a0_5 a0_6 a0_7 a0_8) else (if a0_0 > 1000000000 then (spec_GoodChange.j0 k true a0_0 a0_1 a0_2 a0_3 a0_4 a0_5 a0_6 a0_7 a0_8) else (if a0_1 < 0 then (spec_GoodChange.j0 k true a0_0 a0_1 a0_2 a0_3 a0_4 a0_5 a0_6 a0_7 a0_8) else (if a0_1 > 99 then (spec_GoodChange.j0 k true a0_0 a0_1 a0_2 a0_3 a0_4 a0_5 a0_6 a0_7 a0_8) else (if a0_3 < 1 then (spec_GoodChange.j0 k true a0_0 a0_1 a0_2 a0_3 a0_4 a0_5 a0_6 a0_7 a0_8) else (spec_GoodChange.j0 k (decide (a0_3 > 1000)) a0_0 a0_1 a0_2 a0_3 a0_4 a0_5 a0_6 a0_7 a0_8)))))
theorem spec_GoodChange.mono_l : ∀ k, (∀ y0 y1 y2 y3 y4 y5 y6 y7 y8 y9, LeO (spec_GoodChange.j0 k y0 y1 y2 y3 y4 y5 y6 y7 y8 y9) (spec_GoodChange.j0 (k + 1) y0 y1 y2 y3 y4 y5 y6 y7 y8 y9)) ∧ (∀ y0 y1 y2 y3 y4 y5 y6 y7 y8 y9, LeO (spec_GoodChange.j1 k y0 y1 y2 y3 y4 y5 y6 y7 y8 y9) (spec_GoodChange.j1 (k + 1) y0 y1 y2 y3 y4 y5 y6 y7 y8 y9)) ∧ (∀ y0 y1 y2 y3 y4 y5 y6 y7 y8 y9 y10, LeO (spec_GoodChange.j2 k y0 y1 y2 y3 y4 y5 y6 y7 y8 y9 y10) (spec_GoodChange.j2 (k + 1) y0 y1 y2 y3 y4 y5 y6 y7 y8 y9 y10)) ∧ (∀ y0 y1 y2 y3 y4 y5 y6 y7 y8 y9 y10 y11 y12, LeO (spec_GoodChange.j3 k y0 y1 y2 y3 y4 y5 y6 y7 y8 y9 y10 y11 y12) (spec_GoodChange.j3 (k + 1) y0 y1 y2 y3 y4 y5 y6 y7 y8 y9 y10 y11 y12))
 | 0 => ⟨fun _ _ _ _ _ _ _ _ _ _ r h => by simp [spec_GoodChange.j0] at h, fun _ _ _ _ _ _ _ _ _ _ r h => by simp [spec_GoodChange.j1] at h, fun _ _ _ _ _ _ _ _ _ _ _ r h => by simp [spec_GoodChange.j2] at h, fun _ _ _ _ _ _ _ _ _ _ _ _ _ r h => by simp [spec_GoodChange.j3] at h⟩
 | k + 1 => by
  obtain ⟨ih0, ih1, ih2, ih3⟩ := spec_GoodChange.mono_l k
  refine ⟨?_, ?_, ?_, ?_⟩
  ·intro y0 y1 y2 y3 y4 y5 y6 y7 y8 y9
   unfold spec_GoodChange.j0
   repeat' first
   | (with_reducible exact ih0 _ _ _ _ _ _ _ _ _ _)
   | (with_reducible exact ih1 _ _ _ _ _ _ _ _ _ _)
   | (with_reducible exact ih2 _ _ _ _ _ _ _ _ _ _ _)
   | (with_reducible exact ih3 _ _ _ _ _ _ _ _ _ _ _ _ _)
   | (with_reducible exact spec_GoodName.mono _ _)
   | (with_reducible exact spec_l1Printed.mono _ _)
   | (with_reducible exact spec_l4Tilde.mono _ _)
   | (with_reducible exact LeO.refl _)
   | (with_reducible exact LeO.none _)
   | (with_reducible refine LeO.ite ?_ ?_)
   | (with_reducible refine LeO.bind ?_ (fun _ => ?_))
   | exact ih0 _ _ _ _ _ _ _ _ _ _
   | exact ih1 _ _ _ _ _ _ _ _ _ _
   | exact ih2 _ _ _ _ _ _ _ _ _ _ _
   | exact ih3 _ _ _ _ _ _ _ _ _ _ _ _ _
   | exact spec_GoodName.mono _ _
   | exact spec_l1Printed.mono _ _
   | exact spec_l4Tilde.mono _ _
   | exact LeO.none _
   | refine LeO.ite ?_ ?_
   | refine LeO.bind ?_ (fun _ => ?_)
  ·intro y0 y1 y2 y3 y4 y5 y6 y7 y8 y9
   unfold spec_GoodChange.j1
   repeat' first
   | (with_reducible exact ih0 _ _ _ _ _ _ _ _ _ _)
   | (with_reducible exact ih1 _ _ _ _ _ _ _ _ _ _)
   | (with_reducible exact ih2 _ _ _ _ _ _ _ _ _ _ _)
   | (with_reducible exact ih3 _ _ _ _ _ _ _ _ _ _ _ _ _)
   | (with_reducible exact spec_GoodName.mono _ _)
   | (with_reducible exact spec_l1Printed.mono _ _)
   | (with_reducible exact spec_l4Tilde.mono _ _)
   | (with_reducible exact LeO.refl _)
   | (with_reducible exact LeO.none _)
   | (with_reducible refine LeO.ite ?_ ?_)
   | (with_reducible refine LeO.bind ?_ (fun _ => ?_))
   | exact ih0 _ _ _ _ _ _ _ _ _ _
   | exact ih1 _ _ _ _ _ _ _ _ _ _
   | exact ih2 _ _ _ _ _ _ _ _ _ _ _
   | exact ih3 _ _ _ _ _ _ _ _ _ _ _ _ _
   | exact spec_GoodName.mono _ _
   | exact spec_l1Printed.mono _ _
   | exact spec_l4Tilde.mono _ _
   | exact LeO.none _
   | refine LeO.ite ?_ ?_
   | refine LeO.bind ?_ (fun _ => ?_)
  ·intro y0 y1 y2 y3 y4 y5 y6 y7 y8 y9 y10
   unfold spec_GoodChange.j2
   repeat' first
   | (with_reducible exact ih0 _ _ _ _ _ _ _ _ _ _)
   | (with_reducible exact ih1 _ _ _ _ _ _ _ _ _ _)
   | (with_reducible exact ih2 _ _ _ _ _ _ _ _ _ _ _)
   | (with_reducible exact ih3 _ _ _ _ _ _ _ _ _ _ _ _ _)
   | (with_reducible exact spec_GoodName.mono _ _)
   | (with_reducible exact spec_l1Printed.mono _ _)
   | (with_reducible exact spec_l4Tilde.mono _ _)
   | (with_reducible exact LeO.refl _)
   | (with_reducible exact LeO.none _)
   | (with_reducible refine LeO.ite ?_ ?_)
   | (with_reducible refine LeO.bind ?_ (fun _ => ?_))
   | exact ih0 _ _ _ _ _ _ _ _ _ _
   | exact ih1 _ _ _ _ _ _ _ _ _ _
   | exact ih2 _ _ _ _ _ _ _ _ _ _ _
   | exact ih3 _ _ _ _ _ _ _ _ _ _ _ _ _
   | exact spec_GoodName.mono _ _
   | exact spec_l1Printed.mono _ _
   | exact spec_l4Tilde.mono _ _
   | exact LeO.none _
   | refine LeO.ite ?_ ?_
   | refine LeO.bind ?_ (fun _ => ?_)
  ·intro y0 y1 y2 y3 y4 y5 y6 y7 y8 y9 y10 y11 y12
   unfold spec_GoodChange.j3
   repeat' first
   | (with_reducible exact ih0 _ _ _ _ _ _ _ _ _ _)
   | (with_reducible exact ih1 _ _ _ _ _ _ _ _ _ _)
   | (with_reducible exact ih2 _ _ _ _ _ _ _ _ _ _ _)
   | (with_reducible exact ih3 _ _ _ _ _ _ _ _ _ _ _ _ _)
   | (with_reducible exact spec_GoodName.mono _ _)
   | (with_reducible exact spec_l1Printed.mono _ _)
   | (with_reducible exact spec_l4Tilde.mono _ _)
   | (with_reducible exact LeO.refl _)
   | (with_reducible exact LeO.none _)
   | (with_reducible refine LeO.ite ?_ ?_)
   | (with_reducible refine LeO.bind ?_ (fun _ => ?_))
   | exact ih0 _ _ _ _ _ _ _ _ _ _
   | exact ih1 _ _ _ _ _ _ _ _ _ _
   | exact ih2 _ _ _ _ _ _ _ _ _ _ _
   | exact ih3 _ _ _ _ _ _ _ _ _ _ _ _ _
   | exact spec_GoodName.mono _ _
   | exact spec_l1Printed.mono _ _
   | exact spec_l4Tilde.mono _ _
   | exact LeO.none _
   | refine LeO.ite ?_ ?_
   | refine LeO.bind ?_ (fun _ => ?_)
theorem spec_GoodChange.mono : ∀ a0 a1 a2 a3 a4 a5 a6 a7 a8 k, LeO (spec_GoodChange.f k a0 a1 a2 a3 a4 a5 a6 a7 a8) (spec_GoodChange.f (k + 1) a0 a1 a2 a3 a4 a5 a6 a7 a8) := by
 intro a0 a1 a2 a3 a4 a5 a6 a7 a8 k
 obtain ⟨ih0, ih1, ih2, ih3⟩ := spec_GoodChange.mono_l k
 unfold spec_GoodChange.f
 repeat' first
   | (with_reducible exact ih0 _ _ _ _ _ _ _ _ _ _)
   | (with_reducible exact ih1 _ _ _ _ _ _ _ _ _ _)
   | (with_reducible exact ih2 _ _ _ _ _ _ _ _ _ _ _)
   | (with_reducible exact ih3 _ _ _ _ _ _ _ _ _ _ _ _ _)
   | (with_reducible exact spec_GoodName.mono _ _)
   | (with_reducible exact spec_l1Printed.mono _ _)
   | (with_reducible exact spec_l4Tilde.mono _ _)
   | (with_reducible exact LeO.refl _)
   | (with_reducible exact LeO.none _)
   | (with_reducible refine LeO.ite ?_ ?_)
   | (with_reducible refine LeO.bind ?_ (fun _ => ?_))
   | exact ih0 _ _ _ _ _ _ _ _ _ _
   | exact ih1 _ _ _ _ _ _ _ _ _ _
   | exact ih2 _ _ _ _ _ _ _ _ _ _ _
   | exact ih3 _ _ _ _ _ _ _ _ _ _ _ _ _
   | exact spec_GoodName.mono _ _
   | exact spec_l1Printed.mono _ _
   | exact spec_l4Tilde.mono _ _
   | exact LeO.none _
   | refine LeO.ite ?_ ?_
   | refine LeO.bind ?_ (fun _ => ?_)
set_option maxHeartbeats 8000000 in
set_option maxRecDepth 100000 in
theorem spec_GoodChange.calls (k : Nat) (a0_0 : Int) (a0_1 : Int) (a0_2 : Int) (a0_3 : Int) (a0_4 : Int) (a0_5 : ByteArray) (a0_6 : ByteArray) (a0_7 : ByteArray) (a0_8 : ByteArray) (r : Bool) (w : World) (h : spec_GoodChange.f k a0_0 a0_1 a0_2 a0_3 a0_4 a0_5 a0_6 a0_7 a0_8 = some r) :
  Calls Try.prog 92 #[.agg #[.int .i64 a0_0, .int .i64 a0_1, .int .i64 a0_2, .int .i64 a0_3, .int .i64 a0_4, .string a0_5, .string a0_6, .string a0_7, .string a0_8]] w fun e w' => e = .returned (.bool r) ∧ Below w.heap.size w w' := by
 have hu95 := Try.underlying95
 have hu93 := Try.underlying93
 have HB := Aside0.mk (Below.refl w.heap.size w)
 have H : (if a0_0 < 1 then (spec_GoodChange.j0 k true a0_0 a0_1 a0_2 a0_3 a0_4 a0_5 a0_6 a0_7 a0_8) else (if a0_0 > 1000000000 then (spec_GoodChange.j0 k true a0_0 a0_1 a0_2 a0_3 a0_4 a0_5 a0_6 a0_7 a0_8) else (if a0_1 < 0 then (spec_GoodChange.j0 k true a0_0 a0_1 a0_2 a0_3 a0_4 a0_5 a0_6 a0_7 a0_8) else (if a0_1 > 99 then (spec_GoodChange.j0 k true a0_0 a0_1 a0_2 a0_3 a0_4 a0_5 a0_6 a0_7 a0_8) else (if a0_3 < 1 then (spec_GoodChange.j0 k true a0_0 a0_1 a0_2 a0_3 a0_4 a0_5 a0_6 a0_7 a0_8) else (spec_GoodChange.j0 k (decide (a0_3 > 1000)) a0_0 a0_1 a0_2 a0_3 a0_4 a0_5 a0_6 a0_7 a0_8)))))) = some r := h
 clear h
 have HC2 := Aside0.mk H
 clear H
 go_enter Try.func92, Try.ntmps92
 go_upto_region 1 with (first | ((with_reducible refine gate_dst (N := 1) rfl ?_); (try (refine gate_guard (by rfl) ?_; dsimp only)); refine box_event ?hg (N := 1) ?hd (cs := #[.int .i64 a0_0, .int .i64 a0_1, .int .i64 a0_2, .int .i64 a0_3, .int .i64 a0_4, .string a0_5, .string a0_6, .string a0_7, .string a0_8]) (t := 95) ?hr ?_; (case hd => rfl); (case hg => rfl); (case hr => first | (go_simp; done) | (go_simp; rfl)); intro gb168 hg w3 hbox hb; have n0_ := Aside0.mk (below_step (by repeat (first | (with_reducible first | exact HB.out | apply pkA | apply pkN | apply pkD) | exact HB.out)) hb); have n1_ := Aside0.mk (hbox); have n2_ := Aside0.mk ((by rw [hg]; exact (below_size (by repeat (first | (with_reducible first | exact HB.out | apply pkA | apply pkN | apply pkD) | exact HB.out))) : w.heap.size ≤ gb168)); have n3_ := Aside0.mk ((by rw [hg]; exact (below_size (by repeat (first | (with_reducible first | exact HB.out | apply pkA | apply pkN | apply pkD) | exact HB.out))) : w.heap.size ≤ gb168)); clear HB; have HB := n0_; have BK168 := n1_; have GW168 := n2_; have GE168 := n3_; clear n0_ n1_ n2_ n3_; clear hb hbox hg))
 (try simp only [Act.put, pk1, pk2, pk3])
 go_cut [36] (fun v36 wc => ∃ (kq : Nat) (x36_1 : Bool), v36 = .bool x36_1 ∧ Aside0 (spec_GoodChange.j0 kq x36_1 a0_0 a0_1 a0_2 a0_3 a0_4 a0_5 a0_6 a0_7 a0_8 = some r) ∧ Aside0 (kq ≤ k) ∧ Aside0 (wc.heap[gb168]? = some (.cells #[.int .i64 a0_0, .int .i64 a0_1, .int .i64 a0_2, .int .i64 a0_3, .int .i64 a0_4, .string a0_5, .string a0_6, .string a0_7, .string a0_8] 95 (0, 0))) ∧ Aside0 (Below w.heap.size w wc))
 case first =>
  have H := HC2.out
  clear HC2
  by_cases c4 : a0_0 < 1
  ·rw [if_pos c4] at H
   have c4b0 : decide (a0_0 < 1) = true := decide_eq_true c4
   clear c4
   (first | rw [c4b0] | (simp only [i64_w, i32_w]; rw [c4b0]) | skip)
   have H' := Aside0.mk H
   clear H
   obtain ⟨hcz5_0, hcz5_1, hcz5_2, hcz5_3, hcz5_4, hcz5_5, hcz5_6, hcz5_7, hcz5_8⟩ := pk_cells9 BK168.out
   have hfz5_0 := blk_frozen BK168.out
   go_wp2
   go_meet
   case rel => exact ⟨_, (true), (by first | rfl | (simp; done) | (simp [pw_ne_nil, pw_eq_nil]; done) | (simp [*]; done)), H', ⟨by first | omega | exact Nat.le_refl _⟩, ⟨by (with_reducible repeat (first | refine pkd ?_ _ | refine pke ?_ | refine pkf ?_ _)); exact BK168.out⟩, ⟨by repeat (first | (with_reducible first | exact HB.out | apply pkA | apply pkN | apply pkD | refine below_set ?_ GE168.out) | exact HB.out)⟩⟩
  ·rw [if_neg c4] at H
   have c4b0 : decide (a0_0 < 1) = false := decide_eq_false c4
   clear c4
   (first | rw [c4b0] | (simp only [i64_w, i32_w]; rw [c4b0]) | skip)
   by_cases c6 : a0_0 > 1000000000
   ·rw [if_pos c6] at H
    have c6b0 : decide (1000000000 < a0_0) = true := decide_eq_true c6
    clear c6
    have H' := Aside0.mk H
    clear H
    obtain ⟨hcz7_0, hcz7_1, hcz7_2, hcz7_3, hcz7_4, hcz7_5, hcz7_6, hcz7_7, hcz7_8⟩ := pk_cells9 BK168.out
    have hfz7_0 := blk_frozen BK168.out
    go_wp2
    go_meet
    case rel => exact ⟨_, (true), (by first | rfl | (simp; done) | (simp [pw_ne_nil, pw_eq_nil]; done) | (simp [*]; done)), H', ⟨by first | omega | exact Nat.le_refl _⟩, ⟨by (with_reducible repeat (first | refine pkd ?_ _ | refine pke ?_ | refine pkf ?_ _)); exact BK168.out⟩, ⟨by repeat (first | (with_reducible first | exact HB.out | apply pkA | apply pkN | apply pkD | refine below_set ?_ GE168.out) | exact HB.out)⟩⟩
   ·rw [if_neg c6] at H
    have c6b0 : decide (1000000000 < a0_0) = false := decide_eq_false c6
    clear c6
    by_cases c8 : a0_1 < 0
    ·rw [if_pos c8] at H
     have c8b0 : decide (a0_1 < 0) = true := decide_eq_true c8
     clear c8
     have H' := Aside0.mk H
     clear H
     obtain ⟨hcz9_0, hcz9_1, hcz9_2, hcz9_3, hcz9_4, hcz9_5, hcz9_6, hcz9_7, hcz9_8⟩ := pk_cells9 BK168.out
     have hfz9_0 := blk_frozen BK168.out
     go_wp2
     go_meet
     case rel => exact ⟨_, (true), (by first | rfl | (simp; done) | (simp [pw_ne_nil, pw_eq_nil]; done) | (simp [*]; done)), H', ⟨by first | omega | exact Nat.le_refl _⟩, ⟨by (with_reducible repeat (first | refine pkd ?_ _ | refine pke ?_ | refine pkf ?_ _)); exact BK168.out⟩, ⟨by repeat (first | (with_reducible first | exact HB.out | apply pkA | apply pkN | apply pkD | refine below_set ?_ GE168.out) | exact HB.out)⟩⟩
    ·rw [if_neg c8] at H
     have c8b0 : decide (a0_1 < 0) = false := decide_eq_false c8
     clear c8
     by_cases c10 : a0_1 > 99
     ·rw [if_pos c10] at H
      have c10b0 : decide (99 < a0_1) = true := decide_eq_true c10
      clear c10
      have H' := Aside0.mk H
      clear H
      obtain ⟨hcz11_0, hcz11_1, hcz11_2, hcz11_3, hcz11_4, hcz11_5, hcz11_6, hcz11_7, hcz11_8⟩ := pk_cells9 BK168.out
      have hfz11_0 := blk_frozen BK168.out
      go_wp2
      go_meet
      case rel => exact ⟨_, (true), (by first | rfl | (simp; done) | (simp [pw_ne_nil, pw_eq_nil]; done) | (simp [*]; done)), H', ⟨by first | omega | exact Nat.le_refl _⟩, ⟨by (with_reducible repeat (first | refine pkd ?_ _ | refine pke ?_ | refine pkf ?_ _)); exact BK168.out⟩, ⟨by repeat (first | (with_reducible first | exact HB.out | apply pkA | apply pkN | apply pkD | refine below_set ?_ GE168.out) | exact HB.out)⟩⟩
     ·rw [if_neg c10] at H
      have c10b0 : decide (99 < a0_1) = false := decide_eq_false c10
      clear c10
      by_cases c12 : a0_3 < 1
      ·rw [if_pos c12] at H
       have c12b0 : decide (a0_3 < 1) = true := decide_eq_true c12
       clear c12
       have H' := Aside0.mk H
       clear H
       obtain ⟨hcz13_0, hcz13_1, hcz13_2, hcz13_3, hcz13_4, hcz13_5, hcz13_6, hcz13_7, hcz13_8⟩ := pk_cells9 BK168.out
       have hfz13_0 := blk_frozen BK168.out
       go_wp2
       go_meet
       case rel => exact ⟨_, (true), (by first | rfl | (simp; done) | (simp [pw_ne_nil, pw_eq_nil]; done) | (simp [*]; done)), H', ⟨by first | omega | exact Nat.le_refl _⟩, ⟨by (with_reducible repeat (first | refine pkd ?_ _ | refine pke ?_ | refine pkf ?_ _)); exact BK168.out⟩, ⟨by repeat (first | (with_reducible first | exact HB.out | apply pkA | apply pkN | apply pkD | refine below_set ?_ GE168.out) | exact HB.out)⟩⟩
      ·rw [if_neg c12] at H
       have c12b0 : decide (a0_3 < 1) = false := decide_eq_false c12
       clear c12
       have H' := Aside0.mk H
       clear H
       obtain ⟨hcz14_0, hcz14_1, hcz14_2, hcz14_3, hcz14_4, hcz14_5, hcz14_6, hcz14_7, hcz14_8⟩ := pk_cells9 BK168.out
       have hfz14_0 := blk_frozen BK168.out
       go_wp2
       go_meet
       case rel => exact ⟨_, (decide (a0_3 > 1000)), (by first | rfl | (simp; done) | (simp [pw_ne_nil, pw_eq_nil]; done) | (simp [*]; done)), H', ⟨by first | omega | exact Nat.le_refl _⟩, ⟨by (with_reducible repeat (first | refine pkd ?_ _ | refine pke ?_ | refine pkf ?_ _)); exact BK168.out⟩, ⟨by repeat (first | (with_reducible first | exact HB.out | apply pkA | apply pkN | apply pkD | refine below_set ?_ GE168.out) | exact HB.out)⟩⟩
 case rest =>
  clear HC2
  try clear c1; try clear p2; try clear c4; try clear c4b0; try clear c6; try clear c6b0; try clear c8; try clear c8b0; try clear c9; try clear c10; try clear c10b0; try clear c12; try clear c12b0; try clear hcz11_0; try clear hcz11_1; try clear hcz11_2; try clear hcz11_3; try clear hcz11_4; try clear hcz11_5; try clear hcz11_6; try clear hcz11_7; try clear hcz11_8; try clear hcz13_0; try clear hcz13_1; try clear hcz13_2; try clear hcz13_3; try clear hcz13_4; try clear hcz13_5; try clear hcz13_6; try clear hcz13_7; try clear hcz13_8; try clear hcz14_0; try clear hcz14_1; try clear hcz14_2; try clear hcz14_3; try clear hcz14_4; try clear hcz14_5; try clear hcz14_6; try clear hcz14_7; try clear hcz14_8; try clear hcz5_0; try clear hcz5_1; try clear hcz5_2; try clear hcz5_3; try clear hcz5_4; try clear hcz5_5; try clear hcz5_6; try clear hcz5_7; try clear hcz5_8; try clear hcz7_0; try clear hcz7_1; try clear hcz7_2; try clear hcz7_3; try clear hcz7_4; try clear hcz7_5; try clear hcz7_6; try clear hcz7_7; try clear hcz7_8; try clear hcz9_0; try clear hcz9_1; try clear hcz9_2; try clear hcz9_3; try clear hcz9_4; try clear hcz9_5; try clear hcz9_6; try clear hcz9_7; try clear hcz9_8; try clear hfz11_0; try clear hfz11_1; try clear hfz11_2; try clear hfz11_3; try clear hfz11_4; try clear hfz11_5; try clear hfz11_6; try clear hfz11_7; try clear hfz11_8; try clear hfz13_0; try clear hfz13_1; try clear hfz13_2; try clear hfz13_3; try clear hfz13_4; try clear hfz13_5; try clear hfz13_6; try clear hfz13_7; try clear hfz13_8; try clear hfz14_0; try clear hfz14_1; try clear hfz14_2; try clear hfz14_3; try clear hfz14_4; try clear hfz14_5; try clear hfz14_6; try clear hfz14_7; try clear hfz14_8; try clear hfz5_0; try clear hfz5_1; try clear hfz5_2; try clear hfz5_3; try clear hfz5_4; try clear hfz5_5; try clear hfz5_6; try clear hfz5_7; try clear hfz5_8; try clear hfz7_0; try clear hfz7_1; try clear hfz7_2; try clear hfz7_3; try clear hfz7_4; try clear hfz7_5; try clear hfz7_6; try clear hfz7_7; try clear hfz7_8; try clear hfz9_0; try clear hfz9_1; try clear hfz9_2; try clear hfz9_3; try clear hfz9_4; try clear hfz9_5; try clear hfz9_6; try clear hfz9_7; try clear hfz9_8
  obtain ⟨kq, x36_1, rfl, HA, HJ1, BK168, HB⟩ := hcut
  cases kq with
  | zero => exact absurd HA.out (by simp [spec_GoodChange.j0])
  | succ kj1 =>
   have H := HA.out
   clear HA
   simp only [spec_GoodChange.j0] at H
   by_cases c15 : x36_1 = true
   ·subst c15
    rw [if_pos rfl] at H
    obtain rfl := Option.some.inj H
    go_wp2
    go_ret
    exact ⟨by first | rfl | (simp [errW_none, errW_some] <;> rfl) | (simp [*, errW_none, errW_some] <;> rfl), by repeat (first | (with_reducible first | exact HB.out | apply pkA | apply pkN | apply pkD | refine below_set ?_ GE168.out) | exact HB.out)⟩
   ·replace c15 := Bool.eq_false_iff.mpr c15
    subst c15
    rw [if_neg (show ¬ (false = true) by decide)] at H
    have HC16 := Aside0.mk H
    clear H
    go_upto_region 3 with (fail)
    go_cut [3] (fun v3 wc => ∃ (kq : Nat) (x3_15 : Bool), v3 = .bool x3_15 ∧ Aside0 (spec_GoodChange.j1 kq x3_15 a0_0 a0_1 a0_2 a0_3 a0_4 a0_5 a0_6 a0_7 a0_8 = some r) ∧ Aside0 (kq ≤ kj1) ∧ Aside0 (wc.heap[gb168]? = some (.cells #[.int .i64 a0_0, .int .i64 a0_1, .int .i64 a0_2, .int .i64 a0_3, .int .i64 a0_4, .string a0_5, .string a0_6, .string a0_7, .string a0_8] 95 (0, 0))) ∧ Aside0 (Below w.heap.size w wc))
    case first =>
     have H := HC16.out
     clear HC16
     by_cases c17 : a0_4 = 0
     ·rw [if_pos c17] at H
      have c17b0 : (a0_4 == 0) = true := beq_iff_eq.mpr c17
      have c17b1 : (a0_4 != 0) = false := bne_eq_false_iff_eq.mpr c17
      clear c17
      (first | rw [c17b0] | (simp only [i64_w, i32_w]; rw [c17b0]) | skip)
      have H' := Aside0.mk H
      clear H
      obtain ⟨hcz18_0, hcz18_1, hcz18_2, hcz18_3, hcz18_4, hcz18_5, hcz18_6, hcz18_7, hcz18_8⟩ := pk_cells9 BK168.out
      have hfz18_0 := blk_frozen BK168.out
      go_wp2
      go_meet
      case rel => exact ⟨_, ((a0_5.toList == ([] : List UInt8) && (a0_6.toList == ([] : List UInt8)))), (by first | rfl | (simp; done) | (simp [pw_ne_nil, pw_eq_nil]; done) | (simp [*]; done)), H', ⟨by have := HJ1.out; first | omega | exact Nat.le_refl _⟩, ⟨by (with_reducible repeat (first | refine pkd ?_ _ | refine pke ?_ | refine pkf ?_ _)); exact BK168.out⟩, ⟨by repeat (first | (with_reducible first | exact HB.out | apply pkA | apply pkN | apply pkD | refine below_set ?_ GE168.out) | exact HB.out)⟩⟩
     ·rw [if_neg c17] at H
      have c17b0 : (a0_4 == 0) = false := beq_eq_false_iff_ne.mpr c17
      have c17b1 : (a0_4 != 0) = true := bne_iff_ne.mpr c17
      (first | rw [c17b0] | (simp only [i64_w, i32_w]; rw [c17b0]) | skip)
      have H' := Aside0.mk H
      clear H
      obtain ⟨hcz19_0, hcz19_1, hcz19_2, hcz19_3, hcz19_4, hcz19_5, hcz19_6, hcz19_7, hcz19_8⟩ := pk_cells9 BK168.out
      have hfz19_0 := blk_frozen BK168.out
      go_wp2
      go_meet
      case rel => exact ⟨_, (false), (by first | rfl | (simp; done) | (simp [pw_ne_nil, pw_eq_nil]; done) | (simp [*]; done)), H', ⟨by have := HJ1.out; first | omega | exact Nat.le_refl _⟩, ⟨by (with_reducible repeat (first | refine pkd ?_ _ | refine pke ?_ | refine pkf ?_ _)); exact BK168.out⟩, ⟨by repeat (first | (with_reducible first | exact HB.out | apply pkA | apply pkN | apply pkD | refine below_set ?_ GE168.out) | exact HB.out)⟩⟩
    case rest =>
     clear HC16
     try clear c1; try clear p2; try clear c4; try clear c4b0; try clear c6; try clear c6b0; try clear c8; try clear c8b0; try clear c9; try clear c10; try clear c10b0; try clear c12; try clear c12b0; try clear c15; try clear c17; try clear c17b0; try clear c17b1; try clear hcz11_0; try clear hcz11_1; try clear hcz11_2; try clear hcz11_3; try clear hcz11_4; try clear hcz11_5; try clear hcz11_6; try clear hcz11_7; try clear hcz11_8; try clear hcz13_0; try clear hcz13_1; try clear hcz13_2; try clear hcz13_3; try clear hcz13_4; try clear hcz13_5; try clear hcz13_6; try clear hcz13_7; try clear hcz13_8; try clear hcz14_0; try clear hcz14_1; try clear hcz14_2; try clear hcz14_3; try clear hcz14_4; try clear hcz14_5; try clear hcz14_6; try clear hcz14_7; try clear hcz14_8; try clear hcz18_0; try clear hcz18_1; try clear hcz18_2; try clear hcz18_3; try clear hcz18_4; try clear hcz18_5; try clear hcz18_6; try clear hcz18_7; try clear hcz18_8; try clear hcz19_0; try clear hcz19_1; try clear hcz19_2; try clear hcz19_3; try clear hcz19_4; try clear hcz19_5; try clear hcz19_6; try clear hcz19_7; try clear hcz19_8; try clear hcz5_0; try clear hcz5_1; try clear hcz5_2; try clear hcz5_3; try clear hcz5_4; try clear hcz5_5; try clear hcz5_6; try clear hcz5_7; try clear hcz5_8; try clear hcz7_0; try clear hcz7_1; try clear hcz7_2; try clear hcz7_3; try clear hcz7_4; try clear hcz7_5; try clear hcz7_6; try clear hcz7_7; try clear hcz7_8; try clear hcz9_0; try clear hcz9_1; try clear hcz9_2; try clear hcz9_3; try clear hcz9_4; try clear hcz9_5; try clear hcz9_6; try clear hcz9_7; try clear hcz9_8; try clear hfz11_0; try clear hfz11_1; try clear hfz11_2; try clear hfz11_3; try clear hfz11_4; try clear hfz11_5; try clear hfz11_6; try clear hfz11_7; try clear hfz11_8; try clear hfz13_0; try clear hfz13_1; try clear hfz13_2; try clear hfz13_3; try clear hfz13_4; try clear hfz13_5; try clear hfz13_6; try clear hfz13_7; try clear hfz13_8; try clear hfz14_0; try clear hfz14_1; try clear hfz14_2; try clear hfz14_3; try clear hfz14_4; try clear hfz14_5; try clear hfz14_6; try clear hfz14_7; try clear hfz14_8; try clear hfz18_0; try clear hfz18_1; try clear hfz18_2; try clear hfz18_3; try clear hfz18_4; try clear hfz18_5; try clear hfz18_6; try clear hfz18_7; try clear hfz18_8; try clear hfz19_0; try clear hfz19_1; try clear hfz19_2; try clear hfz19_3; try clear hfz19_4; try clear hfz19_5; try clear hfz19_6; try clear hfz19_7; try clear hfz19_8; try clear hfz5_0; try clear hfz5_1; try clear hfz5_2; try clear hfz5_3; try clear hfz5_4; try clear hfz5_5; try clear hfz5_6; try clear hfz5_7; try clear hfz5_8; try clear hfz7_0; try clear hfz7_1; try clear hfz7_2; try clear hfz7_3; try clear hfz7_4; try clear hfz7_5; try clear hfz7_6; try clear hfz7_7; try clear hfz7_8; try clear hfz9_0; try clear hfz9_1; try clear hfz9_2; try clear hfz9_3; try clear hfz9_4; try clear hfz9_5; try clear hfz9_6; try clear hfz9_7; try clear hfz9_8; try clear p2
     obtain ⟨kq, x3_15, rfl, HA, HJ15, BK168, HB⟩ := hcut
     cases kq with
     | zero => exact absurd HA.out (by simp [spec_GoodChange.j1])
     | succ kj15 =>
      have H := HA.out
      clear HA
      simp only [spec_GoodChange.j1] at H
      have HC20 := Aside0.mk H
      clear H
      go_upto_region 4 with (fail)
      go_cut [4] (fun v4 wc => ∃ (kq : Nat) (x4_19 : Bool), v4 = .bool x4_19 ∧ Aside0 (spec_GoodChange.j2 kq x3_15 x4_19 a0_0 a0_1 a0_2 a0_3 a0_4 a0_5 a0_6 a0_7 a0_8 = some r) ∧ Aside0 (kq ≤ kj15) ∧ Aside0 (wc.heap[gb168]? = some (.cells #[.int .i64 a0_0, .int .i64 a0_1, .int .i64 a0_2, .int .i64 a0_3, .int .i64 a0_4, .string a0_5, .string a0_6, .string a0_7, .string a0_8] 95 (0, 0))) ∧ Aside0 (Below w.heap.size w wc))
      case first =>
       have H := HC20.out
       clear HC20
       by_cases c21 : a0_7.toList = ([] : List UInt8)
       ·rw [if_pos c21] at H
        have c21b0 : (a0_7.toList == ([] : List UInt8)) = true := beq_iff_eq.mpr c21
        have c21b1 : (a0_7.toList != ([] : List UInt8)) = false := bne_eq_false_iff_eq.mpr c21
        clear c21
        (first | rw [c21b0] | (simp only [i64_w, i32_w]; rw [c21b0]) | skip)
        have H' := Aside0.mk H
        clear H
        obtain ⟨hcz22_0, hcz22_1, hcz22_2, hcz22_3, hcz22_4, hcz22_5, hcz22_6, hcz22_7, hcz22_8⟩ := pk_cells9 BK168.out
        have hfz22_0 := blk_frozen BK168.out
        go_wp2
        go_meet
        case rel => exact ⟨_, ((a0_8.toList == ([] : List UInt8))), (by first | rfl | (simp; done) | (simp [pw_ne_nil, pw_eq_nil]; done) | (simp [*]; done)), H', ⟨by have := HJ1.out; have := HJ15.out; first | omega | exact Nat.le_refl _⟩, ⟨by (with_reducible repeat (first | refine pkd ?_ _ | refine pke ?_ | refine pkf ?_ _)); exact BK168.out⟩, ⟨by repeat (first | (with_reducible first | exact HB.out | apply pkA | apply pkN | apply pkD | refine below_set ?_ GE168.out) | exact HB.out)⟩⟩
       ·rw [if_neg c21] at H
        have c21b0 : (a0_7.toList == ([] : List UInt8)) = false := beq_eq_false_iff_ne.mpr c21
        have c21b1 : (a0_7.toList != ([] : List UInt8)) = true := bne_iff_ne.mpr c21
        (first | rw [c21b0] | (simp only [i64_w, i32_w]; rw [c21b0]) | skip)
        have H' := Aside0.mk H
        clear H
        obtain ⟨hcz23_0, hcz23_1, hcz23_2, hcz23_3, hcz23_4, hcz23_5, hcz23_6, hcz23_7, hcz23_8⟩ := pk_cells9 BK168.out
        have hfz23_0 := blk_frozen BK168.out
        go_wp2
        go_meet
        case rel => exact ⟨_, (false), (by first | rfl | (simp; done) | (simp [pw_ne_nil, pw_eq_nil]; done) | (simp [*]; done)), H', ⟨by have := HJ1.out; have := HJ15.out; first | omega | exact Nat.le_refl _⟩, ⟨by (with_reducible repeat (first | refine pkd ?_ _ | refine pke ?_ | refine pkf ?_ _)); exact BK168.out⟩, ⟨by repeat (first | (with_reducible first | exact HB.out | apply pkA | apply pkN | apply pkD | refine below_set ?_ GE168.out) | exact HB.out)⟩⟩
      case rest =>
       clear HC20
       try clear c1; try clear c2; try clear p2; try clear c4; try clear c4b0; try clear c6; try clear c6b0; try clear c8; try clear c8b0; try clear c9; try clear c10; try clear c10b0; try clear c12; try clear c12b0; try clear c15; try clear c17; try clear c17b0; try clear c17b1; try clear c21; try clear c21b0; try clear c21b1; try clear hcz11_0; try clear hcz11_1; try clear hcz11_2; try clear hcz11_3; try clear hcz11_4; try clear hcz11_5; try clear hcz11_6; try clear hcz11_7; try clear hcz11_8; try clear hcz13_0; try clear hcz13_1; try clear hcz13_2; try clear hcz13_3; try clear hcz13_4; try clear hcz13_5; try clear hcz13_6; try clear hcz13_7; try clear hcz13_8; try clear hcz14_0; try clear hcz14_1; try clear hcz14_2; try clear hcz14_3; try clear hcz14_4; try clear hcz14_5; try clear hcz14_6; try clear hcz14_7; try clear hcz14_8; try clear hcz18_0; try clear hcz18_1; try clear hcz18_2; try clear hcz18_3; try clear hcz18_4; try clear hcz18_5; try clear hcz18_6; try clear hcz18_7; try clear hcz18_8; try clear hcz19_0; try clear hcz19_1; try clear hcz19_2; try clear hcz19_3; try clear hcz19_4; try clear hcz19_5; try clear hcz19_6; try clear hcz19_7; try clear hcz19_8; try clear hcz22_0; try clear hcz22_1; try clear hcz22_2; try clear hcz22_3; try clear hcz22_4; try clear hcz22_5; try clear hcz22_6; try clear hcz22_7; try clear hcz22_8; try clear hcz23_0; try clear hcz23_1; try clear hcz23_2; try clear hcz23_3; try clear hcz23_4; try clear hcz23_5; try clear hcz23_6; try clear hcz23_7; try clear hcz23_8; try clear hcz5_0; try clear hcz5_1; try clear hcz5_2; try clear hcz5_3; try clear hcz5_4; try clear hcz5_5; try clear hcz5_6; try clear hcz5_7; try clear hcz5_8; try clear hcz7_0; try clear hcz7_1; try clear hcz7_2; try clear hcz7_3; try clear hcz7_4; try clear hcz7_5; try clear hcz7_6; try clear hcz7_7; try clear hcz7_8; try clear hcz9_0; try clear hcz9_1; try clear hcz9_2; try clear hcz9_3; try clear hcz9_4; try clear hcz9_5; try clear hcz9_6; try clear hcz9_7; try clear hcz9_8; try clear hfz11_0; try clear hfz11_1; try clear hfz11_2; try clear hfz11_3; try clear hfz11_4; try clear hfz11_5; try clear hfz11_6; try clear hfz11_7; try clear hfz11_8; try clear hfz13_0; try clear hfz13_1; try clear hfz13_2; try clear hfz13_3; try clear hfz13_4; try clear hfz13_5; try clear hfz13_6; try clear hfz13_7; try clear hfz13_8; try clear hfz14_0; try clear hfz14_1; try clear hfz14_2; try clear hfz14_3; try clear hfz14_4; try clear hfz14_5; try clear hfz14_6; try clear hfz14_7; try clear hfz14_8; try clear hfz18_0; try clear hfz18_1; try clear hfz18_2; try clear hfz18_3; try clear hfz18_4; try clear hfz18_5; try clear hfz18_6; try clear hfz18_7; try clear hfz18_8; try clear hfz19_0; try clear hfz19_1; try clear hfz19_2; try clear hfz19_3; try clear hfz19_4; try clear hfz19_5; try clear hfz19_6; try clear hfz19_7; try clear hfz19_8; try clear hfz22_0; try clear hfz22_1; try clear hfz22_2; try clear hfz22_3; try clear hfz22_4; try clear hfz22_5; try clear hfz22_6; try clear hfz22_7; try clear hfz22_8; try clear hfz23_0; try clear hfz23_1; try clear hfz23_2; try clear hfz23_3; try clear hfz23_4; try clear hfz23_5; try clear hfz23_6; try clear hfz23_7; try clear hfz23_8; try clear hfz5_0; try clear hfz5_1; try clear hfz5_2; try clear hfz5_3; try clear hfz5_4; try clear hfz5_5; try clear hfz5_6; try clear hfz5_7; try clear hfz5_8; try clear hfz7_0; try clear hfz7_1; try clear hfz7_2; try clear hfz7_3; try clear hfz7_4; try clear hfz7_5; try clear hfz7_6; try clear hfz7_7; try clear hfz7_8; try clear hfz9_0; try clear hfz9_1; try clear hfz9_2; try clear hfz9_3; try clear hfz9_4; try clear hfz9_5; try clear hfz9_6; try clear hfz9_7; try clear hfz9_8; try clear p2
       obtain ⟨kq, x4_19, rfl, HA, HJ19, BK168, HB⟩ := hcut
       cases kq with
       | zero => exact absurd HA.out (by simp [spec_GoodChange.j2])
       | succ kj19 =>
        have H := HA.out
        clear HA
        simp only [spec_GoodChange.j2] at H
        by_cases c24 : a0_2 = 1
        ·rw [if_pos c24] at H
         have c24b0 : (a0_2 == 1) = true := beq_iff_eq.mpr c24
         have c24b1 : (a0_2 != 1) = false := bne_eq_false_iff_eq.mpr c24
         clear c24
         by_cases c25 : x4_19 = true
         ·subst c25
          rw [if_pos rfl] at H
          by_cases c26 : a0_4 ≥ 0
          ·rw [if_pos c26] at H
           have c26b0 : decide (0 ≤ a0_4) = true := decide_eq_true c26
           clear c26
           by_cases c27 : a0_4 ≤ 1000
           ·rw [if_pos c27] at H
            have c27b0 : decide (a0_4 ≤ 1000) = true := decide_eq_true c27
            clear c27
            replace H := Option.bind_eq_some_iff.mp H
            obtain ⟨t169, A280, H⟩ := H
            try dsimp only at H
            have A28 := Aside0.mk A280
            clear A280
            by_cases c29 : t169 = true
            ·subst c29
             rw [if_pos rfl] at H
             by_cases c30 : (a0_6.size : Int) ≥ 1
             ·rw [if_pos c30] at H
              have c30b0 : decide (1 ≤ (a0_6.size : Int)) = true := decide_eq_true c30
              have c30b1 : decide (1 ≤ a0_6.size) = true := decide_eq_true (by omega)
              clear c30
              by_cases c31 : (a0_6.size : Int) ≤ 50
              ·rw [if_pos c31] at H
               have c31b0 : decide ((a0_6.size : Int) ≤ 50) = true := decide_eq_true c31
               have c31b1 : decide (a0_6.size ≤ 50) = true := decide_eq_true (by omega)
               clear c31
               replace H := Option.bind_eq_some_iff.mp H
               obtain ⟨t170, A320, H⟩ := H
               try dsimp only at H
               have A32 := Aside0.mk A320
               clear A320
               by_cases c33 : t170 = true
               ·subst c33
                rw [if_pos rfl] at H
                replace H := Option.bind_eq_some_iff.mp H
                obtain ⟨t171, A340, H⟩ := H
                try dsimp only at H
                have A34 := Aside0.mk A340
                clear A340
                obtain rfl := Option.some.inj H
                obtain ⟨hcz35_0, hcz35_1, hcz35_2, hcz35_3, hcz35_4, hcz35_5, hcz35_6, hcz35_7, hcz35_8⟩ := pk_cells9 BK168.out
                have hfz35_0 := blk_frozen BK168.out
                go_wp2_with (first | (go_at_call 52; (with_reducible refine (spec_GoodName.calls kj19 a0_5 true _ A28.out).mono ?_); rintro e w' ⟨rfl, ⟨nd, rfl⟩⟩) | (go_at_call 128; (with_reducible refine (spec_l1Printed.calls kj19 a0_6 true _ A32.out).mono ?_); rintro e w' ⟨rfl, ⟨nd, rfl⟩⟩) | (go_at_call 129; (with_reducible refine (spec_l4Tilde.calls kj19 a0_6 t171 _ A34.out).mono ?_); rintro e w' ⟨rfl, ⟨nd, rfl⟩⟩))
                go_ret
                exact ⟨by first | rfl | (simp [errW_none, errW_some] <;> rfl) | (simp [*, errW_none, errW_some] <;> rfl), by repeat (first | (with_reducible first | exact HB.out | apply pkA | apply pkN | apply pkD | refine below_set ?_ GE168.out) | exact HB.out)⟩
               ·replace c33 := Bool.eq_false_iff.mpr c33
                subst c33
                rw [if_neg (show ¬ (false = true) by decide)] at H
                obtain rfl := Option.some.inj H
                obtain ⟨hcz36_0, hcz36_1, hcz36_2, hcz36_3, hcz36_4, hcz36_5, hcz36_6, hcz36_7, hcz36_8⟩ := pk_cells9 BK168.out
                have hfz36_0 := blk_frozen BK168.out
                go_wp2_with (first | (go_at_call 52; (with_reducible refine (spec_GoodName.calls kj19 a0_5 true _ A28.out).mono ?_); rintro e w' ⟨rfl, ⟨nd, rfl⟩⟩) | (go_at_call 128; (with_reducible refine (spec_l1Printed.calls kj19 a0_6 false _ A32.out).mono ?_); rintro e w' ⟨rfl, ⟨nd, rfl⟩⟩))
                go_ret
                exact ⟨by first | rfl | (simp [errW_none, errW_some] <;> rfl) | (simp [*, errW_none, errW_some] <;> rfl), by repeat (first | (with_reducible first | exact HB.out | apply pkA | apply pkN | apply pkD | refine below_set ?_ GE168.out) | exact HB.out)⟩
              ·rw [if_neg c31] at H
               have c31b0 : decide ((a0_6.size : Int) ≤ 50) = false := decide_eq_false c31
               have c31b1 : decide (a0_6.size ≤ 50) = false := decide_eq_false (by omega)
               clear c31
               obtain rfl := Option.some.inj H
               obtain ⟨hcz37_0, hcz37_1, hcz37_2, hcz37_3, hcz37_4, hcz37_5, hcz37_6, hcz37_7, hcz37_8⟩ := pk_cells9 BK168.out
               have hfz37_0 := blk_frozen BK168.out
               go_wp2_with (first | (go_at_call 52; (with_reducible refine (spec_GoodName.calls kj19 a0_5 true _ A28.out).mono ?_); rintro e w' ⟨rfl, ⟨nd, rfl⟩⟩))
               go_ret
               exact ⟨by first | rfl | (simp [errW_none, errW_some] <;> rfl) | (simp [*, errW_none, errW_some] <;> rfl), by repeat (first | (with_reducible first | exact HB.out | apply pkA | apply pkN | apply pkD | refine below_set ?_ GE168.out) | exact HB.out)⟩
             ·rw [if_neg c30] at H
              have c30b0 : decide (1 ≤ (a0_6.size : Int)) = false := decide_eq_false c30
              have c30b1 : decide (1 ≤ a0_6.size) = false := decide_eq_false (by omega)
              clear c30
              obtain rfl := Option.some.inj H
              obtain ⟨hcz38_0, hcz38_1, hcz38_2, hcz38_3, hcz38_4, hcz38_5, hcz38_6, hcz38_7, hcz38_8⟩ := pk_cells9 BK168.out
              have hfz38_0 := blk_frozen BK168.out
              go_wp2_with (first | (go_at_call 52; (with_reducible refine (spec_GoodName.calls kj19 a0_5 true _ A28.out).mono ?_); rintro e w' ⟨rfl, ⟨nd, rfl⟩⟩))
              go_ret
              exact ⟨by first | rfl | (simp [errW_none, errW_some] <;> rfl) | (simp [*, errW_none, errW_some] <;> rfl), by repeat (first | (with_reducible first | exact HB.out | apply pkA | apply pkN | apply pkD | refine below_set ?_ GE168.out) | exact HB.out)⟩
            ·replace c29 := Bool.eq_false_iff.mpr c29
             subst c29
             rw [if_neg (show ¬ (false = true) by decide)] at H
             obtain rfl := Option.some.inj H
             obtain ⟨hcz39_0, hcz39_1, hcz39_2, hcz39_3, hcz39_4, hcz39_5, hcz39_6, hcz39_7, hcz39_8⟩ := pk_cells9 BK168.out
             have hfz39_0 := blk_frozen BK168.out
             go_wp2_with (first | (go_at_call 52; (with_reducible refine (spec_GoodName.calls kj19 a0_5 false _ A28.out).mono ?_); rintro e w' ⟨rfl, ⟨nd, rfl⟩⟩))
             go_ret
             exact ⟨by first | rfl | (simp [errW_none, errW_some] <;> rfl) | (simp [*, errW_none, errW_some] <;> rfl), by repeat (first | (with_reducible first | exact HB.out | apply pkA | apply pkN | apply pkD | refine below_set ?_ GE168.out) | exact HB.out)⟩
           ·rw [if_neg c27] at H
            have c27b0 : decide (a0_4 ≤ 1000) = false := decide_eq_false c27
            clear c27
            obtain rfl := Option.some.inj H
            obtain ⟨hcz40_0, hcz40_1, hcz40_2, hcz40_3, hcz40_4, hcz40_5, hcz40_6, hcz40_7, hcz40_8⟩ := pk_cells9 BK168.out
            have hfz40_0 := blk_frozen BK168.out
            go_wp2
            go_ret
            exact ⟨by first | rfl | (simp [errW_none, errW_some] <;> rfl) | (simp [*, errW_none, errW_some] <;> rfl), by repeat (first | (with_reducible first | exact HB.out | apply pkA | apply pkN | apply pkD | refine below_set ?_ GE168.out) | exact HB.out)⟩
          ·rw [if_neg c26] at H
           have c26b0 : decide (0 ≤ a0_4) = false := decide_eq_false c26
           clear c26
           obtain rfl := Option.some.inj H
           obtain ⟨hcz41_0, hcz41_1, hcz41_2, hcz41_3, hcz41_4, hcz41_5, hcz41_6, hcz41_7, hcz41_8⟩ := pk_cells9 BK168.out
           have hfz41_0 := blk_frozen BK168.out
           go_wp2
           go_ret
           exact ⟨by first | rfl | (simp [errW_none, errW_some] <;> rfl) | (simp [*, errW_none, errW_some] <;> rfl), by repeat (first | (with_reducible first | exact HB.out | apply pkA | apply pkN | apply pkD | refine below_set ?_ GE168.out) | exact HB.out)⟩
         ·replace c25 := Bool.eq_false_iff.mpr c25
          subst c25
          rw [if_neg (show ¬ (false = true) by decide)] at H
          obtain rfl := Option.some.inj H
          obtain ⟨hcz42_0, hcz42_1, hcz42_2, hcz42_3, hcz42_4, hcz42_5, hcz42_6, hcz42_7, hcz42_8⟩ := pk_cells9 BK168.out
          have hfz42_0 := blk_frozen BK168.out
          go_wp2
          go_ret
          exact ⟨by first | rfl | (simp [errW_none, errW_some] <;> rfl) | (simp [*, errW_none, errW_some] <;> rfl), by repeat (first | (with_reducible first | exact HB.out | apply pkA | apply pkN | apply pkD | refine below_set ?_ GE168.out) | exact HB.out)⟩
        ·rw [if_neg c24] at H
         have c24b0 : (a0_2 == 1) = false := beq_eq_false_iff_ne.mpr c24
         have c24b1 : (a0_2 != 1) = true := bne_iff_ne.mpr c24
         have HC43 := Aside0.mk H
         clear H
         obtain ⟨hcz44_0, hcz44_1, hcz44_2, hcz44_3, hcz44_4, hcz44_5, hcz44_6, hcz44_7, hcz44_8⟩ := pk_cells9 BK168.out
         have hfz44_0 := blk_frozen BK168.out
         go_upto_if 102 with (fail)
         go_cut [102] (fun v102 wc => ∃ (kq : Nat) (x102_42 : Bool), v102 = .bool x102_42 ∧ Aside0 (spec_GoodChange.j3 kq x3_15 x4_19 a0_2 x102_42 a0_0 a0_1 a0_2 a0_3 a0_4 a0_5 a0_6 a0_7 a0_8 = some r) ∧ Aside0 (kq ≤ kj19) ∧ Aside0 (wc.heap[gb168]? = some (.cells #[.int .i64 a0_0, .int .i64 a0_1, .int .i64 a0_2, .int .i64 a0_3, .int .i64 a0_4, .string a0_5, .string a0_6, .string a0_7, .string a0_8] 95 (0, 0))) ∧ Aside0 (Below w.heap.size w wc))
         case first =>
          have H := HC43.out
          clear HC43
          by_cases c45 : a0_2 = 2
          ·rw [if_pos c45] at H
           have c45b0 : (a0_2 == 2) = true := beq_iff_eq.mpr c45
           have c45b1 : (a0_2 != 2) = false := bne_eq_false_iff_eq.mpr c45
           clear c45
           (first | rw [c45b0] | (simp only [i64_w, i32_w]; rw [c45b0]) | skip)
           have H' := Aside0.mk H
           clear H
           go_wp2
           go_meet
           case rel => exact ⟨_, ((a0_2 == 2)), (by first | rfl | (simp; done) | (simp [pw_ne_nil, pw_eq_nil]; done) | (simp [*]; done)), H', ⟨by have := HJ1.out; have := HJ15.out; have := HJ19.out; first | omega | exact Nat.le_refl _⟩, ⟨by (with_reducible repeat (first | refine pkd ?_ _ | refine pke ?_ | refine pkf ?_ _)); exact BK168.out⟩, ⟨by repeat (first | (with_reducible first | exact HB.out | apply pkA | apply pkN | apply pkD | refine below_set ?_ GE168.out) | exact HB.out)⟩⟩
          ·rw [if_neg c45] at H
           have c45b0 : (a0_2 == 2) = false := beq_eq_false_iff_ne.mpr c45
           have c45b1 : (a0_2 != 2) = true := bne_iff_ne.mpr c45
           (first | rw [c45b0] | (simp only [i64_w, i32_w]; rw [c45b0]) | skip)
           have H' := Aside0.mk H
           clear H
           go_wp2
           go_meet
           case rel => exact ⟨_, ((a0_2 == 3)), (by first | rfl | (simp; done) | (simp [pw_ne_nil, pw_eq_nil]; done) | (simp [*]; done)), H', ⟨by have := HJ1.out; have := HJ15.out; have := HJ19.out; first | omega | exact Nat.le_refl _⟩, ⟨by (with_reducible repeat (first | refine pkd ?_ _ | refine pke ?_ | refine pkf ?_ _)); exact BK168.out⟩, ⟨by repeat (first | (with_reducible first | exact HB.out | apply pkA | apply pkN | apply pkD | refine below_set ?_ GE168.out) | exact HB.out)⟩⟩
         case rest =>
          clear HC43
          try clear c1; try clear c2; try clear p2; try clear c3; try clear c4; try clear c4b0; try clear c6; try clear c6b0; try clear c8; try clear c8b0; try clear c9; try clear c10; try clear c10b0; try clear c12; try clear c12b0; try clear c15; try clear c17; try clear c17b0; try clear c17b1; try clear c21; try clear c21b0; try clear c21b1; try clear c24; try clear c24b0; try clear c24b1; try clear c25; try clear c26; try clear c26b0; try clear c27; try clear c27b0; try clear c29; try clear c30; try clear c30b0; try clear c30b1; try clear c31; try clear c31b0; try clear c31b1; try clear c33; try clear c45; try clear c45b0; try clear c45b1; try clear hcz11_0; try clear hcz11_1; try clear hcz11_2; try clear hcz11_3; try clear hcz11_4; try clear hcz11_5; try clear hcz11_6; try clear hcz11_7; try clear hcz11_8; try clear hcz13_0; try clear hcz13_1; try clear hcz13_2; try clear hcz13_3; try clear hcz13_4; try clear hcz13_5; try clear hcz13_6; try clear hcz13_7; try clear hcz13_8; try clear hcz14_0; try clear hcz14_1; try clear hcz14_2; try clear hcz14_3; try clear hcz14_4; try clear hcz14_5; try clear hcz14_6; try clear hcz14_7; try clear hcz14_8; try clear hcz18_0; try clear hcz18_1; try clear hcz18_2; try clear hcz18_3; try clear hcz18_4; try clear hcz18_5; try clear hcz18_6; try clear hcz18_7; try clear hcz18_8; try clear hcz19_0; try clear hcz19_1; try clear hcz19_2; try clear hcz19_3; try clear hcz19_4; try clear hcz19_5; try clear hcz19_6; try clear hcz19_7; try clear hcz19_8; try clear hcz22_0; try clear hcz22_1; try clear hcz22_2; try clear hcz22_3; try clear hcz22_4; try clear hcz22_5; try clear hcz22_6; try clear hcz22_7; try clear hcz22_8; try clear hcz23_0; try clear hcz23_1; try clear hcz23_2; try clear hcz23_3; try clear hcz23_4; try clear hcz23_5; try clear hcz23_6; try clear hcz23_7; try clear hcz23_8; try clear hcz35_0; try clear hcz35_1; try clear hcz35_2; try clear hcz35_3; try clear hcz35_4; try clear hcz35_5; try clear hcz35_6; try clear hcz35_7; try clear hcz35_8; try clear hcz36_0; try clear hcz36_1; try clear hcz36_2; try clear hcz36_3; try clear hcz36_4; try clear hcz36_5; try clear hcz36_6; try clear hcz36_7; try clear hcz36_8; try clear hcz37_0; try clear hcz37_1; try clear hcz37_2; try clear hcz37_3; try clear hcz37_4; try clear hcz37_5; try clear hcz37_6; try clear hcz37_7; try clear hcz37_8; try clear hcz38_0; try clear hcz38_1; try clear hcz38_2; try clear hcz38_3; try clear hcz38_4; try clear hcz38_5; try clear hcz38_6; try clear hcz38_7; try clear hcz38_8; try clear hcz39_0; try clear hcz39_1; try clear hcz39_2; try clear hcz39_3; try clear hcz39_4; try clear hcz39_5; try clear hcz39_6; try clear hcz39_7; try clear hcz39_8; try clear hcz40_0; try clear hcz40_1; try clear hcz40_2; try clear hcz40_3; try clear hcz40_4; try clear hcz40_5; try clear hcz40_6; try clear hcz40_7; try clear hcz40_8; try clear hcz41_0; try clear hcz41_1; try clear hcz41_2; try clear hcz41_3; try clear hcz41_4; try clear hcz41_5; try clear hcz41_6; try clear hcz41_7; try clear hcz41_8; try clear hcz42_0; try clear hcz42_1; try clear hcz42_2; try clear hcz42_3; try clear hcz42_4; try clear hcz42_5; try clear hcz42_6; try clear hcz42_7; try clear hcz42_8; try clear hcz44_0; try clear hcz44_1; try clear hcz44_2; try clear hcz44_3; try clear hcz44_4; try clear hcz44_5; try clear hcz44_6; try clear hcz44_7; try clear hcz44_8; try clear hcz5_0; try clear hcz5_1; try clear hcz5_2; try clear hcz5_3; try clear hcz5_4; try clear hcz5_5; try clear hcz5_6; try clear hcz5_7; try clear hcz5_8; try clear hcz7_0; try clear hcz7_1; try clear hcz7_2; try clear hcz7_3; try clear hcz7_4; try clear hcz7_5; try clear hcz7_6; try clear hcz7_7; try clear hcz7_8; try clear hcz9_0; try clear hcz9_1; try clear hcz9_2; try clear hcz9_3; try clear hcz9_4; try clear hcz9_5; try clear hcz9_6; try clear hcz9_7; try clear hcz9_8; try clear hfz11_0; try clear hfz11_1; try clear hfz11_2; try clear hfz11_3; try clear hfz11_4; try clear hfz11_5; try clear hfz11_6; try clear hfz11_7; try clear hfz11_8; try clear hfz13_0; try clear hfz13_1; try clear hfz13_2; try clear hfz13_3; try clear hfz13_4; try clear hfz13_5; try clear hfz13_6; try clear hfz13_7; try clear hfz13_8; try clear hfz14_0; try clear hfz14_1; try clear hfz14_2; try clear hfz14_3; try clear hfz14_4; try clear hfz14_5; try clear hfz14_6; try clear hfz14_7; try clear hfz14_8; try clear hfz18_0; try clear hfz18_1; try clear hfz18_2; try clear hfz18_3; try clear hfz18_4; try clear hfz18_5; try clear hfz18_6; try clear hfz18_7; try clear hfz18_8; try clear hfz19_0; try clear hfz19_1; try clear hfz19_2; try clear hfz19_3; try clear hfz19_4; try clear hfz19_5; try clear hfz19_6; try clear hfz19_7; try clear hfz19_8; try clear hfz22_0; try clear hfz22_1; try clear hfz22_2; try clear hfz22_3; try clear hfz22_4; try clear hfz22_5; try clear hfz22_6; try clear hfz22_7; try clear hfz22_8; try clear hfz23_0; try clear hfz23_1; try clear hfz23_2; try clear hfz23_3; try clear hfz23_4; try clear hfz23_5; try clear hfz23_6; try clear hfz23_7; try clear hfz23_8; try clear hfz35_0; try clear hfz35_1; try clear hfz35_2; try clear hfz35_3; try clear hfz35_4; try clear hfz35_5; try clear hfz35_6; try clear hfz35_7; try clear hfz35_8; try clear hfz36_0; try clear hfz36_1; try clear hfz36_2; try clear hfz36_3; try clear hfz36_4; try clear hfz36_5; try clear hfz36_6; try clear hfz36_7; try clear hfz36_8; try clear hfz37_0; try clear hfz37_1; try clear hfz37_2; try clear hfz37_3; try clear hfz37_4; try clear hfz37_5; try clear hfz37_6; try clear hfz37_7; try clear hfz37_8; try clear hfz38_0; try clear hfz38_1; try clear hfz38_2; try clear hfz38_3; try clear hfz38_4; try clear hfz38_5; try clear hfz38_6; try clear hfz38_7; try clear hfz38_8; try clear hfz39_0; try clear hfz39_1; try clear hfz39_2; try clear hfz39_3; try clear hfz39_4; try clear hfz39_5; try clear hfz39_6; try clear hfz39_7; try clear hfz39_8; try clear hfz40_0; try clear hfz40_1; try clear hfz40_2; try clear hfz40_3; try clear hfz40_4; try clear hfz40_5; try clear hfz40_6; try clear hfz40_7; try clear hfz40_8; try clear hfz41_0; try clear hfz41_1; try clear hfz41_2; try clear hfz41_3; try clear hfz41_4; try clear hfz41_5; try clear hfz41_6; try clear hfz41_7; try clear hfz41_8; try clear hfz42_0; try clear hfz42_1; try clear hfz42_2; try clear hfz42_3; try clear hfz42_4; try clear hfz42_5; try clear hfz42_6; try clear hfz42_7; try clear hfz42_8; try clear hfz44_0; try clear hfz44_1; try clear hfz44_2; try clear hfz44_3; try clear hfz44_4; try clear hfz44_5; try clear hfz44_6; try clear hfz44_7; try clear hfz44_8; try clear hfz5_0; try clear hfz5_1; try clear hfz5_2; try clear hfz5_3; try clear hfz5_4; try clear hfz5_5; try clear hfz5_6; try clear hfz5_7; try clear hfz5_8; try clear hfz7_0; try clear hfz7_1; try clear hfz7_2; try clear hfz7_3; try clear hfz7_4; try clear hfz7_5; try clear hfz7_6; try clear hfz7_7; try clear hfz7_8; try clear hfz9_0; try clear hfz9_1; try clear hfz9_2; try clear hfz9_3; try clear hfz9_4; try clear hfz9_5; try clear hfz9_6; try clear hfz9_7; try clear hfz9_8; try clear p2
          obtain ⟨kq, x102_42, rfl, HA, HJ42, BK168, HB⟩ := hcut
          cases kq with
          | zero => exact absurd HA.out (by simp [spec_GoodChange.j3])
          | succ kj42 =>
           have H := HA.out
           clear HA
           simp only [spec_GoodChange.j3] at H
           by_cases c46 : x102_42 = true
           ·subst c46
            rw [if_pos rfl] at H
            by_cases c47 : x3_15 = true
            ·subst c47
             rw [if_pos rfl] at H
             replace H := Option.bind_eq_some_iff.mp H
             obtain ⟨t172, A480, H⟩ := H
             try dsimp only at H
             have A48 := Aside0.mk A480
             clear A480
             by_cases c49 : t172 = true
             ·subst c49
              rw [if_pos rfl] at H
              by_cases c50 : (a0_8.size : Int) ≥ 1
              ·rw [if_pos c50] at H
               have c50b0 : decide (1 ≤ (a0_8.size : Int)) = true := decide_eq_true c50
               have c50b1 : decide (1 ≤ a0_8.size) = true := decide_eq_true (by omega)
               clear c50
               by_cases c51 : (a0_8.size : Int) ≤ 200
               ·rw [if_pos c51] at H
                have c51b0 : decide ((a0_8.size : Int) ≤ 200) = true := decide_eq_true c51
                have c51b1 : decide (a0_8.size ≤ 200) = true := decide_eq_true (by omega)
                clear c51
                replace H := Option.bind_eq_some_iff.mp H
                obtain ⟨t173, A520, H⟩ := H
                try dsimp only at H
                have A52 := Aside0.mk A520
                clear A520
                obtain rfl := Option.some.inj H
                obtain ⟨hcz53_0, hcz53_1, hcz53_2, hcz53_3, hcz53_4, hcz53_5, hcz53_6, hcz53_7, hcz53_8⟩ := pk_cells9 BK168.out
                have hfz53_0 := blk_frozen BK168.out
                go_wp2_with (first | (go_at_call 52; (with_reducible refine (spec_GoodName.calls kj42 a0_7 true _ A48.out).mono ?_); rintro e w' ⟨rfl, ⟨nd, rfl⟩⟩) | (go_at_call 128; (with_reducible refine (spec_l1Printed.calls kj42 a0_8 t173 _ A52.out).mono ?_); rintro e w' ⟨rfl, ⟨nd, rfl⟩⟩))
                go_ret
                exact ⟨by first | rfl | (simp [errW_none, errW_some] <;> rfl) | (simp [*, errW_none, errW_some] <;> rfl), by repeat (first | (with_reducible first | exact HB.out | apply pkA | apply pkN | apply pkD | refine below_set ?_ GE168.out) | exact HB.out)⟩
               ·rw [if_neg c51] at H
                have c51b0 : decide ((a0_8.size : Int) ≤ 200) = false := decide_eq_false c51
                have c51b1 : decide (a0_8.size ≤ 200) = false := decide_eq_false (by omega)
                clear c51
                obtain rfl := Option.some.inj H
                obtain ⟨hcz54_0, hcz54_1, hcz54_2, hcz54_3, hcz54_4, hcz54_5, hcz54_6, hcz54_7, hcz54_8⟩ := pk_cells9 BK168.out
                have hfz54_0 := blk_frozen BK168.out
                go_wp2_with (first | (go_at_call 52; (with_reducible refine (spec_GoodName.calls kj42 a0_7 true _ A48.out).mono ?_); rintro e w' ⟨rfl, ⟨nd, rfl⟩⟩))
                go_ret
                exact ⟨by first | rfl | (simp [errW_none, errW_some] <;> rfl) | (simp [*, errW_none, errW_some] <;> rfl), by repeat (first | (with_reducible first | exact HB.out | apply pkA | apply pkN | apply pkD | refine below_set ?_ GE168.out) | exact HB.out)⟩
              ·rw [if_neg c50] at H
               have c50b0 : decide (1 ≤ (a0_8.size : Int)) = false := decide_eq_false c50
               have c50b1 : decide (1 ≤ a0_8.size) = false := decide_eq_false (by omega)
               clear c50
               obtain rfl := Option.some.inj H
               obtain ⟨hcz55_0, hcz55_1, hcz55_2, hcz55_3, hcz55_4, hcz55_5, hcz55_6, hcz55_7, hcz55_8⟩ := pk_cells9 BK168.out
               have hfz55_0 := blk_frozen BK168.out
               go_wp2_with (first | (go_at_call 52; (with_reducible refine (spec_GoodName.calls kj42 a0_7 true _ A48.out).mono ?_); rintro e w' ⟨rfl, ⟨nd, rfl⟩⟩))
               go_ret
               exact ⟨by first | rfl | (simp [errW_none, errW_some] <;> rfl) | (simp [*, errW_none, errW_some] <;> rfl), by repeat (first | (with_reducible first | exact HB.out | apply pkA | apply pkN | apply pkD | refine below_set ?_ GE168.out) | exact HB.out)⟩
             ·replace c49 := Bool.eq_false_iff.mpr c49
              subst c49
              rw [if_neg (show ¬ (false = true) by decide)] at H
              obtain rfl := Option.some.inj H
              obtain ⟨hcz56_0, hcz56_1, hcz56_2, hcz56_3, hcz56_4, hcz56_5, hcz56_6, hcz56_7, hcz56_8⟩ := pk_cells9 BK168.out
              have hfz56_0 := blk_frozen BK168.out
              go_wp2_with (first | (go_at_call 52; (with_reducible refine (spec_GoodName.calls kj42 a0_7 false _ A48.out).mono ?_); rintro e w' ⟨rfl, ⟨nd, rfl⟩⟩))
              go_ret
              exact ⟨by first | rfl | (simp [errW_none, errW_some] <;> rfl) | (simp [*, errW_none, errW_some] <;> rfl), by repeat (first | (with_reducible first | exact HB.out | apply pkA | apply pkN | apply pkD | refine below_set ?_ GE168.out) | exact HB.out)⟩
            ·replace c47 := Bool.eq_false_iff.mpr c47
             subst c47
             rw [if_neg (show ¬ (false = true) by decide)] at H
             obtain rfl := Option.some.inj H
             go_wp2
             go_ret
             exact ⟨by first | rfl | (simp [errW_none, errW_some] <;> rfl) | (simp [*, errW_none, errW_some] <;> rfl), by repeat (first | (with_reducible first | exact HB.out | apply pkA | apply pkN | apply pkD | refine below_set ?_ GE168.out) | exact HB.out)⟩
           ·replace c46 := Bool.eq_false_iff.mpr c46
            subst c46
            rw [if_neg (show ¬ (false = true) by decide)] at H
            by_cases c57 : a0_2 = 4
            ·rw [if_pos c57] at H
             have c57b0 : (a0_2 == 4) = true := beq_iff_eq.mpr c57
             have c57b1 : (a0_2 != 4) = false := bne_eq_false_iff_eq.mpr c57
             clear c57
             by_cases c58 : x3_15 = true
             ·subst c58
              rw [if_pos rfl] at H
              obtain rfl := Option.some.inj H
              go_wp2
              go_ret
              exact ⟨by first | rfl | (simp [errW_none, errW_some] <;> rfl) | (simp [*, errW_none, errW_some] <;> rfl), by repeat (first | (with_reducible first | exact HB.out | apply pkA | apply pkN | apply pkD | refine below_set ?_ GE168.out) | exact HB.out)⟩
             ·replace c58 := Bool.eq_false_iff.mpr c58
              subst c58
              rw [if_neg (show ¬ (false = true) by decide)] at H
              obtain rfl := Option.some.inj H
              go_wp2
              go_ret
              exact ⟨by first | rfl | (simp [errW_none, errW_some] <;> rfl) | (simp [*, errW_none, errW_some] <;> rfl), by repeat (first | (with_reducible first | exact HB.out | apply pkA | apply pkN | apply pkD | refine below_set ?_ GE168.out) | exact HB.out)⟩
            ·rw [if_neg c57] at H
             have c57b0 : (a0_2 == 4) = false := beq_eq_false_iff_ne.mpr c57
             have c57b1 : (a0_2 != 4) = true := bne_iff_ne.mpr c57
             obtain rfl := Option.some.inj H
             go_wp2
             go_ret
             exact ⟨by first | rfl | (simp [errW_none, errW_some] <;> rfl) | (simp [*, errW_none, errW_some] <;> rfl), by repeat (first | (with_reducible first | exact HB.out | apply pkA | apply pkN | apply pkD | refine below_set ?_ GE168.out) | exact HB.out)⟩

end Go.Proofs.Ytcgiegkcmofhhab.PFnExactMissing
