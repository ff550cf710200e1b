-- Written for this claim by a program of this session, which goes by the kit's print and takes contracts proved by hand.
import Derived.Test.YtcgiegkcmofhhabPFnExactMissingx0
import Derived.Test.YtcgiegkcmofhhabPFnExactMissingx2
import Derived.Test.YtcgiegkcmofhhabPFnExactMissingx8
namespace Go.Proofs.Ytcgiegkcmofhhab.PFnExactMissing
open Go.RowKit Go.Proofs.YtcgiegkcmofhhabW.PrintWords Go.Proofs.YtcgiegkcmofhhabW.PrintLast Go.Proofs.YtcgiegkcmofhhabW.PrintMore
attribute [local go_sem] max2_int min2_int max_two min_two max_three min_three max_four min_four   -- for this text's walks alone
set_option linter.unusedVariables false
set_option linter.unusedSimpArgs false

/-! ### spec_l4Missing: function 69 -/
mutual
def spec_l4Missing.l0 : Nat → List (S25) → List (S95) → List (S95) → Int → Int → Option ((List (S95)))
 | 0, _, _, _, _, _ => none
 | k + 1, x1, x5, x11, x12, x13 => if x13 < x12 then (if 0 ≤ x13 then (if x13 < (x11.length : Int) then (spec_l4Missing.l1 k x1 x5 false x11 x12 x13 x1 (x1.length : Int) 0 ((rd_T95 x11 x13).f0.f0) ((rd_T95 x11 x13).f0.f1) ((rd_T95 x11 x13).f1) ((rd_T95 x11 x13).f2) ((rd_T95 x11 x13).f3) ((rd_T95 x11 x13).f4.f0) ((rd_T95 x11 x13).f4.f1) ((rd_T95 x11 x13).f5) ((rd_T95 x11 x13).f6)) else (none)) else (none)) else (some x5)
def spec_l4Missing.l1 : Nat → List (S25) → List (S95) → Bool → List (S95) → Int → Int → List (S25) → Int → Int → Int → Int → Int → Int → Int → ByteArray → ByteArray → ByteArray → ByteArray → Option ((List (S95)))
 | 0, _, _, _, _, _, _, _, _, _, _, _, _, _, _, _, _, _, _ => none
 | k + 1, x1, x5, x8, x11, x12, x13, x17, x18, x19, x185000, x185001, x185002, x185003, x185004, x185005, x185006, x185007, x185008 => if x19 < x18 then (if 0 ≤ x19 then (if x19 < (x17.length : Int) then (if x8 = true then (spec_l4Missing.l1 k x1 x5 true x11 x12 x13 x17 x18 (wrap64 (x19 + 1)) x185000 x185001 x185002 x185003 x185004 x185005 x185006 x185007 x185008) else (if ((rd_T25 x17 x19).f1) = x185001 then (spec_l4Missing.l1 k x1 x5 (decide (x185000 ≤ ((rd_T25 x17 x19).f0))) x11 x12 x13 x17 x18 (wrap64 (x19 + 1)) x185000 x185001 x185002 x185003 x185004 x185005 x185006 x185007 x185008) else (spec_l4Missing.l1 k x1 x5 false x11 x12 x13 x17 x18 (wrap64 (x19 + 1)) x185000 x185001 x185002 x185003 x185004 x185005 x185006 x185007 x185008))) else (none)) else (none)) else (if x8 = true then (spec_l4Missing.l0 k x1 x5 x11 x12 (wrap64 (x13 + 1))) else (if x5.length < 1353245080339 then (spec_l4Missing.l0 k x1 (x5 ++ [(⟨(⟨x185000, x185001⟩ : S25), x185002, x185003, x185004, (⟨x185005, x185006⟩ : S93), x185007, x185008⟩ : S95)]) x11 x12 (wrap64 (x13 + 1))) else (none)))
end
def spec_l4Missing.f (k : Nat) (l0 : List (S95)) (l1 : List (S25)) : Option ((List (S95))) := spec_l4Missing.l0 k l1 ([] : List (S95)) l0 (l0.length : Int) 0
theorem spec_l4Missing.mono_l : ∀ k, (∀ y0 y1 y2 y3 y4, LeO (spec_l4Missing.l0 k y0 y1 y2 y3 y4) (spec_l4Missing.l0 (k + 1) y0 y1 y2 y3 y4)) ∧ (∀ y0 y1 y2 y3 y4 y5 y6 y7 y8 y9 y10 y11 y12 y13 y14 y15 y16 y17, LeO (spec_l4Missing.l1 k y0 y1 y2 y3 y4 y5 y6 y7 y8 y9 y10 y11 y12 y13 y14 y15 y16 y17) (spec_l4Missing.l1 (k + 1) y0 y1 y2 y3 y4 y5 y6 y7 y8 y9 y10 y11 y12 y13 y14 y15 y16 y17))
 | 0 => ⟨fun _ _ _ _ _ r h => by simp [spec_l4Missing.l0] at h, fun _ _ _ _ _ _ _ _ _ _ _ _ _ _ _ _ _ _ r h => by simp [spec_l4Missing.l1] at h⟩
 | k + 1 => by
  obtain ⟨ih0, ih1⟩ := spec_l4Missing.mono_l k
  refine ⟨?_, ?_⟩
  ·intro y0 y1 y2 y3 y4
   unfold spec_l4Missing.l0
   repeat' first
   | (with_reducible exact ih0 _ _ _ _ _)
   | (with_reducible exact ih1 _ _ _ _ _ _ _ _ _ _ _ _ _ _ _ _ _ _)
   | (with_reducible exact LeO.refl _)
   | (with_reducible exact LeO.none _)
   | (with_reducible refine LeO.ite ?_ ?_)
   | (with_reducible refine LeO.bind ?_ (fun _ => ?_))
   | exact ih0 _ _ _ _ _
   | exact ih1 _ _ _ _ _ _ _ _ _ _ _ _ _ _ _ _ _ _
   | exact LeO.none _
   | refine LeO.ite ?_ ?_
   | refine LeO.bind ?_ (fun _ => ?_)
  ·intro y0 y1 y2 y3 y4 y5 y6 y7 y8 y9 y10 y11 y12 y13 y14 y15 y16 y17
   unfold spec_l4Missing.l1
   repeat' first
   | (with_reducible exact ih0 _ _ _ _ _)
   | (with_reducible exact ih1 _ _ _ _ _ _ _ _ _ _ _ _ _ _ _ _ _ _)
   | (with_reducible exact LeO.refl _)
   | (with_reducible exact LeO.none _)
   | (with_reducible refine LeO.ite ?_ ?_)
   | (with_reducible refine LeO.bind ?_ (fun _ => ?_))
   | exact ih0 _ _ _ _ _
   | exact ih1 _ _ _ _ _ _ _ _ _ _ _ _ _ _ _ _ _ _
   | exact LeO.none _
   | refine LeO.ite ?_ ?_
   | refine LeO.bind ?_ (fun _ => ?_)
theorem spec_l4Missing.mono : ∀ a0 a1 k, LeO (spec_l4Missing.f k a0 a1) (spec_l4Missing.f (k + 1) a0 a1) := by
 intro a0 a1 k
 obtain ⟨ih0, ih1⟩ := spec_l4Missing.mono_l k
 unfold spec_l4Missing.f
 repeat' first
   | (with_reducible exact ih0 _ _ _ _ _)
   | (with_reducible exact ih1 _ _ _ _ _ _ _ _ _ _ _ _ _ _ _ _ _ _)
   | (with_reducible exact LeO.refl _)
   | (with_reducible exact LeO.none _)
   | (with_reducible refine LeO.ite ?_ ?_)
   | (with_reducible refine LeO.bind ?_ (fun _ => ?_))
   | exact ih0 _ _ _ _ _
   | exact ih1 _ _ _ _ _ _ _ _ _ _ _ _ _ _ _ _ _ _
   | exact LeO.none _
   | refine LeO.ite ?_ ?_
   | refine LeO.bind ?_ (fun _ => ?_)
set_option maxHeartbeats 8000000 in
set_option maxRecDepth 100000 in
theorem spec_l4Missing.calls (k : Nat) (A0 : Option Addr) (c0 : Nat) (l0 : List (S95)) (A1 : Option Addr) (c1 : Nat) (l1 : List (S25)) (r : List (S95)) (w : World) (hr0 : Kd.C k95 w A0 l0.length l0) (hc0 : l0.length ≤ c0) (hr1 : Kd.C k25 w A1 l1.length l1) (hc1 : l1.length ≤ c1) (h : spec_l4Missing.f k l0 l1 = some r) :
  Calls Try.prog 69 #[.slice A0 l0.length c0, .slice A1 l1.length c1] w fun e w' => ∃ v0_ : Value, e = .returned (v0_) ∧ Kd.R k95 95 w' w.heap.size (fun _ => True) v0_ r ∧ Below w.heap.size w w' := by
 have hu95 := Try.underlying95
 have hu25 := Try.underlying25
 have HR0 := Aside0.mk hr0
 have HC0 := Aside0.mk hc0
 clear hr0 hc0
 have HR1 := Aside0.mk hr1
 have HC1 := Aside0.mk hc1
 clear hr1 hc1
 have HB := Aside0.mk (Below.refl w.heap.size w)
 have H : (spec_l4Missing.l0 k l1 ([] : List (S95)) l0 (l0.length : Int) 0) = some r := h
 clear h
 have H' := Aside0.mk H
 clear H
 go_enter Try.func69, Try.ntmps69
 go_wp2
 go_loopg [5, 13] k (fun kq v5 v13 w' => ∃ (x5_1 : List (S95)) (x13_1 : Int), v13 = .int .i64 x13_1 ∧ Aside0 (spec_l4Missing.l0 kq l1 x5_1 l0 (l0.length : Int) x13_1 = some r) ∧ Aside0 (kq ≤ k) ∧ Aside0 (Kd.R k95 95 w' w.heap.size (fun _ => True) v5 x5_1) ∧ Aside0 (Below w.heap.size w w'))
 case atStart => exact ⟨(([] : List (S95))), (0), (by first | rfl | (simp; done) | (simp [pw_ne_nil, pw_eq_nil]; done) | (simp [*]; done)), H', ⟨Nat.le_refl _⟩, ⟨by first | exact Kd.R_nil _ _ _ _ _ | exact Kd.N_nil _ _ _ _ _ | exact Kd.V_nil _ _ _ _ _ | exact Kd.Q_nil _ _ _ _ _ | exact Kd.S_nil _ _ _ _ _⟩, ⟨by repeat (first | (with_reducible first | exact HB.out | apply pkA | apply pkN | apply pkD) | exact HB.out)⟩⟩
 case round =>
  clear H'
  try clear c1; try clear p2
  obtain ⟨x5_1, x13_1, rfl, HA, HK1, HO_5, HB⟩ := hrel
  cases gk with
  | zero => exact absurd HA.out (by simp [spec_l4Missing.l0])
  | succ k1 =>
   have H := HA.out
   clear HA
   simp only [spec_l4Missing.l0] at H
   by_cases c3 : x13_1 < (l0.length : Int)
   ·rw [if_pos c3] at H
    have c3b0 : decide (x13_1 < (l0.length : Int)) = true := decide_eq_true c3
    clear c3
    by_cases c4 : 0 ≤ x13_1
    ·rw [if_pos c4] at H
     have c4b0 : decide (0 ≤ x13_1) = true := decide_eq_true c4
     clear c4
     by_cases c5 : x13_1 < (l0.length : Int)
     ·rw [if_pos c5] at H
      have c5b0 : decide (x13_1 < (l0.length : Int)) = true := decide_eq_true c5
      clear c5
      have H' := Aside0.mk H
      clear H
      have p183 : 0 ≤ (x13_1 : Int) := of_decide_eq_true (by first | (with_reducible assumption) | assumption)
      have q183 : x13_1 < (l0.length : Int) := of_decide_eq_true (by first | (with_reducible assumption) | assumption)
      obtain ⟨ad183, e183, hx183_0, hx183_1, hx183_2, hx183_3, hx183_4, hx183_5, hx183_6, hx183_7, hx183_8⟩ := at_T95 HR0.out x13_1 p183 q183
      cases e183
      obtain ⟨hx183_0, hx183_1, hx183_2, hx183_3, hx183_4, hx183_5, hx183_6, hx183_7, hx183_8⟩ := pk_up9 HB.out hx183_0 hx183_1 hx183_2 hx183_3 hx183_4 hx183_5 hx183_6 hx183_7 hx183_8
      replace p183 := eq_true p183
      replace q183 := eq_true q183
      go_wp2_with (first | ((with_reducible refine gate_dst (N := 7) rfl ?_); refine box_event ?hg (N := 7) ?hd (cs := #[.int .i64 0, .int .i64 0, .int .i64 0, .int .i64 0, .int .i64 0, .string (⟨#[]⟩ : ByteArray), .string (⟨#[]⟩ : ByteArray), .string (⟨#[]⟩ : ByteArray), .string (⟨#[]⟩ : ByteArray)]) (t := 95) ?hr ?_; (case hd => rfl); (case hg => rfl); (case hr => first | (go_simp; done) | (go_simp; rfl)); intro gb184 hg w6 hbox hb; have n0_ := Aside0.mk (Kd.R_below (Kd.R_elderB (by (with_reducible repeat (first | apply Kd.R_alloc | apply Kd.R_drewN | apply Kd.R_drew)); exact HO_5.out) gb184 (Nat.le_of_eq hg.symm)) hb); have n1_ := Aside0.mk (below_step (by repeat (first | (with_reducible first | exact HB.out | apply pkA | apply pkN | apply pkD) | exact HB.out)) hb); have n2_ := Aside0.mk (hbox); have n3_ := Aside0.mk ((by rw [hg]; exact (below_size (by repeat (first | (with_reducible first | exact HB.out | apply pkA | apply pkN | apply pkD) | exact HB.out))) : w.heap.size ≤ gb184)); have n4_ := Aside0.mk ((by rw [hg]; exact (below_size (by repeat (first | (with_reducible first | exact HB.out | apply pkA | apply pkN | apply pkD) | exact HB.out))) : w.heap.size ≤ gb184)); clear HO_5; clear HB; have HO_5 := n0_; have HB := n1_; have BK184 := n2_; have GW184 := n3_; have GE184 := n4_; clear n0_ n1_ n2_ n3_ n4_; clear hb hbox hg; obtain ⟨hcz7_0, hcz7_1, hcz7_2, hcz7_3, hcz7_4, hcz7_5, hcz7_6, hcz7_7, hcz7_8⟩ := pk_cells9 BK184.out; have hfz7_0 := blk_frozen BK184.out))
      go_loopg [8, 19] k1 (fun kq v8 v19 w' => ∃ (x8_2 : Bool) (x19_2 : Int), v8 = .bool x8_2 ∧ v19 = .int .i64 x19_2 ∧ Aside0 (spec_l4Missing.l1 kq l1 x5_1 x8_2 l0 (l0.length : Int) x13_1 l1 (l1.length : Int) x19_2 ((rd_T95 l0 x13_1).f0.f0) ((rd_T95 l0 x13_1).f0.f1) ((rd_T95 l0 x13_1).f1) ((rd_T95 l0 x13_1).f2) ((rd_T95 l0 x13_1).f3) ((rd_T95 l0 x13_1).f4.f0) ((rd_T95 l0 x13_1).f4.f1) ((rd_T95 l0 x13_1).f5) ((rd_T95 l0 x13_1).f6) = some r) ∧ Aside0 (kq ≤ k1) ∧ Aside0 (Kd.R k95 95 w' w.heap.size (fun k_ => k_ ≠ gb184) u5 x5_1) ∧ Aside0 (w'.heap[gb184]? = some (.cells #[.int .i64 ((rd_T95 l0 x13_1).f0.f0), .int .i64 ((rd_T95 l0 x13_1).f0.f1), .int .i64 ((rd_T95 l0 x13_1).f1), .int .i64 ((rd_T95 l0 x13_1).f2), .int .i64 ((rd_T95 l0 x13_1).f3), .string ((rd_T95 l0 x13_1).f4.f0), .string ((rd_T95 l0 x13_1).f4.f1), .string ((rd_T95 l0 x13_1).f5), .string ((rd_T95 l0 x13_1).f6)] 95 (0, 0))) ∧ Aside0 (Below w.heap.size w w'))
      case atStart => exact ⟨(false), (0), (by first | rfl | (simp; done) | (simp [pw_ne_nil, pw_eq_nil]; done) | (simp [*]; done)), (by first | rfl | (simp; done) | (simp [pw_ne_nil, pw_eq_nil]; done) | (simp [*]; done)), H', ⟨Nat.le_refl _⟩, ⟨by (with_reducible repeat (first | apply Kd.R_alloc | apply Kd.R_drewN | apply Kd.R_drew)); exact Kd.R_mono (Kd.R_far (p := ⟨gb184, 8, none⟩) (Kd.R_far (p := ⟨gb184, 7, none⟩) (Kd.R_far (p := ⟨gb184, 6, none⟩) (Kd.R_far (p := ⟨gb184, 5, none⟩) (Kd.R_far (p := ⟨gb184, 4, none⟩) (Kd.R_far (p := ⟨gb184, 3, none⟩) (Kd.R_far (p := ⟨gb184, 2, none⟩) (Kd.R_far (p := ⟨gb184, 1, none⟩) (Kd.R_far (p := ⟨gb184, 0, none⟩) (Kd.R_mono HO_5.out (fun k_ hk => (⟨hk, hk.2⟩ : _ ∧ k_ ≠ gb184))) (fun _ hk => hk.2) (.int .i64 ((rd_T95 l0 x13_1).f0.f0))) (fun _ hk => hk.2) (.int .i64 ((rd_T95 l0 x13_1).f0.f1))) (fun _ hk => hk.2) (.int .i64 ((rd_T95 l0 x13_1).f1))) (fun _ hk => hk.2) (.int .i64 ((rd_T95 l0 x13_1).f2))) (fun _ hk => hk.2) (.int .i64 ((rd_T95 l0 x13_1).f3))) (fun _ hk => hk.2) (.string ((rd_T95 l0 x13_1).f4.f0))) (fun _ hk => hk.2) (.string ((rd_T95 l0 x13_1).f4.f1))) (fun _ hk => hk.2) (.string ((rd_T95 l0 x13_1).f5))) (fun _ hk => hk.2) (.string ((rd_T95 l0 x13_1).f6))) (fun _ hk => hk.1.2)⟩, ⟨by apply pk_puts9; (with_reducible repeat (first | refine pkd ?_ _ | refine pke ?_ | refine pkf ?_ _)); exact BK184.out⟩, ⟨by repeat (first | (with_reducible first | exact HB.out | apply pkA | apply pkN | apply pkD | refine below_set ?_ GE184.out) | exact HB.out)⟩⟩
      case round =>
       clear H'
       try clear c1; try clear p1; try clear q1; try clear hx1; try clear p2; try clear c3; try clear c3b0; try clear c4; try clear c4b0; try clear c5; try clear c5b0; try clear c6; try clear hcz7_0; try clear hcz7_1; try clear hcz7_2; try clear hcz7_3; try clear hcz7_4; try clear hcz7_5; try clear hcz7_6; try clear hcz7_7; try clear hcz7_8; try clear hfz7_0; try clear hfz7_1; try clear hfz7_2; try clear hfz7_3; try clear hfz7_4; try clear hfz7_5; try clear hfz7_6; try clear hfz7_7; try clear hfz7_8; try clear hx183_0; try clear hx183_1; try clear hx183_2; try clear hx183_3; try clear hx183_4; try clear hx183_5; try clear hx183_6; try clear hx183_7; try clear hx183_8; try clear p183; try clear p2; try clear q183
       obtain ⟨x8_2, x19_2, rfl, rfl, HA, HK2, HO_5, BK184, HB⟩ := hrel
       cases gk with
       | zero => exact absurd HA.out (by simp [spec_l4Missing.l1])
       | succ k2 =>
        have H := HA.out
        clear HA
        simp only [spec_l4Missing.l1] at H
        by_cases c8 : x19_2 < (l1.length : Int)
        ·rw [if_pos c8] at H
         have c8b0 : decide (x19_2 < (l1.length : Int)) = true := decide_eq_true c8
         clear c8
         by_cases c9 : 0 ≤ x19_2
         ·rw [if_pos c9] at H
          have c9b0 : decide (0 ≤ x19_2) = true := decide_eq_true c9
          clear c9
          by_cases c10 : x19_2 < (l1.length : Int)
          ·rw [if_pos c10] at H
           have c10b0 : decide (x19_2 < (l1.length : Int)) = true := decide_eq_true c10
           clear c10
           by_cases c11 : x8_2 = true
           ·subst c11
            rw [if_pos rfl] at H
            have H' := Aside0.mk H
            clear H
            have p185 : 0 ≤ (x19_2 : Int) := of_decide_eq_true (by first | (with_reducible assumption) | assumption)
            have q185 : x19_2 < (l1.length : Int) := of_decide_eq_true (by first | (with_reducible assumption) | assumption)
            obtain ⟨ad185, e185, hx185_0, hx185_1⟩ := at_T25 HR1.out x19_2 p185 q185
            cases e185
            replace hx185_0 := (HB.out.cell (World.block_lt_of_cell? w _ hx185_0)).trans hx185_0
            replace hx185_1 := (HB.out.cell (World.block_lt_of_cell? w _ hx185_1)).trans hx185_1
            replace p185 := eq_true p185
            replace q185 := eq_true q185
            go_wp2_with (first | ((with_reducible refine gate_dst (N := 10) rfl ?_); refine box_event ?hg (N := 10) ?hd (cs := #[.int .i64 0, .int .i64 0]) (t := 25) ?hr ?_; (case hd => rfl); (case hg => rfl); (case hr => first | (go_simp; done) | (go_simp; rfl)); intro gb186 hg w12 hbox hb; have n0_ := Aside0.mk (Kd.R_below (by (with_reducible repeat (first | apply Kd.R_alloc | apply Kd.R_drewN | apply Kd.R_drew)); exact HO_5.out) hb); have n1_ := Aside0.mk (blk_below (g := gb184) (o := .cells #[.int .i64 ((rd_T95 l0 x13_1).f0.f0), .int .i64 ((rd_T95 l0 x13_1).f0.f1), .int .i64 ((rd_T95 l0 x13_1).f1), .int .i64 ((rd_T95 l0 x13_1).f2), .int .i64 ((rd_T95 l0 x13_1).f3), .string ((rd_T95 l0 x13_1).f4.f0), .string ((rd_T95 l0 x13_1).f4.f1), .string ((rd_T95 l0 x13_1).f5), .string ((rd_T95 l0 x13_1).f6)] 95 (0, 0)) (by (with_reducible repeat (first | refine pkd ?_ _ | refine pke ?_ | refine pkf ?_ _)); exact BK184.out) hb); have n2_ := Aside0.mk (below_step (by repeat (first | (with_reducible first | exact HB.out | apply pkA | apply pkN | apply pkD | refine below_set ?_ GE184.out) | exact HB.out)) hb); have n3_ := Aside0.mk (hbox); have n4_ := Aside0.mk ((by rw [hg]; exact (below_size (by repeat (first | (with_reducible first | exact HB.out | apply pkA | apply pkN | apply pkD | refine below_set ?_ GE184.out) | exact HB.out))) : w.heap.size ≤ gb186)); have n5_ := Aside0.mk ((by rw [hg]; exact (below_size (by repeat (first | (with_reducible first | exact HB.out | apply pkA | apply pkN | apply pkD | refine below_set ?_ GE184.out) | exact HB.out))) : w.heap.size ≤ gb186)); have n6_ := Aside0.mk ((by rw [hg]; exact Nat.ne_of_lt (blk_lt (g := gb184) (o := .cells #[.int .i64 ((rd_T95 l0 x13_1).f0.f0), .int .i64 ((rd_T95 l0 x13_1).f0.f1), .int .i64 ((rd_T95 l0 x13_1).f1), .int .i64 ((rd_T95 l0 x13_1).f2), .int .i64 ((rd_T95 l0 x13_1).f3), .string ((rd_T95 l0 x13_1).f4.f0), .string ((rd_T95 l0 x13_1).f4.f1), .string ((rd_T95 l0 x13_1).f5), .string ((rd_T95 l0 x13_1).f6)] 95 (0, 0)) (by (with_reducible repeat (first | refine pkd ?_ _ | refine pke ?_ | refine pkf ?_ _)); exact BK184.out)) : gb184 ≠ gb186)); have n7_ := Aside0.mk ((by rw [hg]; exact Nat.ne_of_gt (blk_lt (g := gb184) (o := .cells #[.int .i64 ((rd_T95 l0 x13_1).f0.f0), .int .i64 ((rd_T95 l0 x13_1).f0.f1), .int .i64 ((rd_T95 l0 x13_1).f1), .int .i64 ((rd_T95 l0 x13_1).f2), .int .i64 ((rd_T95 l0 x13_1).f3), .string ((rd_T95 l0 x13_1).f4.f0), .string ((rd_T95 l0 x13_1).f4.f1), .string ((rd_T95 l0 x13_1).f5), .string ((rd_T95 l0 x13_1).f6)] 95 (0, 0)) (by (with_reducible repeat (first | refine pkd ?_ _ | refine pke ?_ | refine pkf ?_ _)); exact BK184.out)) : gb186 ≠ gb184)); clear HO_5; clear BK184; clear HB; have HO_5 := n0_; have BK184 := n1_; have HB := n2_; have BK186 := n3_; have GW186 := n4_; have GE186 := n5_; have NB184_186 := n6_; have NB186_184 := n7_; clear n0_ n1_ n2_ n3_ n4_ n5_ n6_ n7_; clear hb hbox hg; have hnb13 := NB186_184.out; have hnc13 := NB184_186.out; have hcz14_0 : w12.cell? ⟨gb186, 0, none⟩ = some (.int .i64 0) := (blk_cell BK186.out 0).trans rfl; have hcz14_1 : w12.cell? ⟨gb186, 1, none⟩ = some (.int .i64 0) := (blk_cell BK186.out 1).trans rfl; have hfz14_0 := blk_frozen BK186.out))
            go_roundg k2
            case measure => have := HK1.out; have := HK2.out; omega
            case rel => exact ⟨(true), (wrap64 (x19_2 + 1)), (by first | rfl | (simp; done) | (simp [pw_ne_nil, pw_eq_nil]; done) | (simp [*]; done)), (by first | rfl | (simp; done) | (simp [pw_ne_nil, pw_eq_nil]; done) | (simp [*]; done)), H', ⟨by have := HK1.out; have := HK2.out; omega⟩, ⟨by (with_reducible repeat (first | apply Kd.R_alloc | apply Kd.R_drewN | apply Kd.R_drew)); exact Kd.R_mono (Kd.R_far (p := ⟨gb186, 1, none⟩) (Kd.R_far (p := ⟨gb186, 0, none⟩) (Kd.R_types HO_5.out BK186.out (by decide)) (fun _ hk => hk.2) (.int .i64 ((rd_T25 l1 x19_2).f0))) (fun _ hk => hk.2) (.int .i64 ((rd_T25 l1 x19_2).f1))) (fun _ hk => hk.1)⟩, ⟨by (with_reducible repeat (first | refine pkd ?_ _ | refine pke ?_ | refine pkf ?_ _)); refine blk_far ?_ NB184_186.out _; (with_reducible repeat (first | refine pkd ?_ _ | refine pke ?_ | refine pkf ?_ _)); refine blk_far ?_ NB184_186.out _; (with_reducible repeat (first | refine pkd ?_ _ | refine pke ?_ | refine pkf ?_ _)); exact BK184.out⟩, ⟨by repeat (first | (with_reducible first | exact HB.out | apply pkA | apply pkN | apply pkD | refine below_set ?_ GE184.out | refine below_set ?_ GE186.out) | exact HB.out)⟩⟩
           ·replace c11 := Bool.eq_false_iff.mpr c11
            subst c11
            rw [if_neg (show ¬ (false = true) by decide)] at H
            by_cases c15 : ((rd_T25 l1 x19_2).f1) = ((rd_T95 l0 x13_1).f0.f1)
            ·rw [if_pos c15] at H
             have c15b0 : (((rd_T25 l1 x19_2).f1) == ((rd_T95 l0 x13_1).f0.f1)) = true := beq_iff_eq.mpr c15
             have c15b1 : (((rd_T25 l1 x19_2).f1) != ((rd_T95 l0 x13_1).f0.f1)) = false := bne_eq_false_iff_eq.mpr c15
             clear c15
             have H' := Aside0.mk H
             clear H
             have p185 : 0 ≤ (x19_2 : Int) := of_decide_eq_true (by first | (with_reducible assumption) | assumption)
             have q185 : x19_2 < (l1.length : Int) := of_decide_eq_true (by first | (with_reducible assumption) | assumption)
             obtain ⟨ad185, e185, hx185_0, hx185_1⟩ := at_T25 HR1.out x19_2 p185 q185
             cases e185
             replace hx185_0 := (HB.out.cell (World.block_lt_of_cell? w _ hx185_0)).trans hx185_0
             replace hx185_1 := (HB.out.cell (World.block_lt_of_cell? w _ hx185_1)).trans hx185_1
             replace p185 := eq_true p185
             replace q185 := eq_true q185
             go_wp2_with (first | ((with_reducible refine gate_dst (N := 10) rfl ?_); refine box_event ?hg (N := 10) ?hd (cs := #[.int .i64 0, .int .i64 0]) (t := 25) ?hr ?_; (case hd => rfl); (case hg => rfl); (case hr => first | (go_simp; done) | (go_simp; rfl)); intro gb186 hg w16 hbox hb; have n0_ := Aside0.mk (Kd.R_below (by (with_reducible repeat (first | apply Kd.R_alloc | apply Kd.R_drewN | apply Kd.R_drew)); exact HO_5.out) hb); have n1_ := Aside0.mk (blk_below (g := gb184) (o := .cells #[.int .i64 ((rd_T95 l0 x13_1).f0.f0), .int .i64 ((rd_T95 l0 x13_1).f0.f1), .int .i64 ((rd_T95 l0 x13_1).f1), .int .i64 ((rd_T95 l0 x13_1).f2), .int .i64 ((rd_T95 l0 x13_1).f3), .string ((rd_T95 l0 x13_1).f4.f0), .string ((rd_T95 l0 x13_1).f4.f1), .string ((rd_T95 l0 x13_1).f5), .string ((rd_T95 l0 x13_1).f6)] 95 (0, 0)) (by (with_reducible repeat (first | refine pkd ?_ _ | refine pke ?_ | refine pkf ?_ _)); exact BK184.out) hb); have n2_ := Aside0.mk (below_step (by repeat (first | (with_reducible first | exact HB.out | apply pkA | apply pkN | apply pkD | refine below_set ?_ GE184.out) | exact HB.out)) hb); have n3_ := Aside0.mk (hbox); have n4_ := Aside0.mk ((by rw [hg]; exact (below_size (by repeat (first | (with_reducible first | exact HB.out | apply pkA | apply pkN | apply pkD | refine below_set ?_ GE184.out) | exact HB.out))) : w.heap.size ≤ gb186)); have n5_ := Aside0.mk ((by rw [hg]; exact (below_size (by repeat (first | (with_reducible first | exact HB.out | apply pkA | apply pkN | apply pkD | refine below_set ?_ GE184.out) | exact HB.out))) : w.heap.size ≤ gb186)); have n6_ := Aside0.mk ((by rw [hg]; exact Nat.ne_of_lt (blk_lt (g := gb184) (o := .cells #[.int .i64 ((rd_T95 l0 x13_1).f0.f0), .int .i64 ((rd_T95 l0 x13_1).f0.f1), .int .i64 ((rd_T95 l0 x13_1).f1), .int .i64 ((rd_T95 l0 x13_1).f2), .int .i64 ((rd_T95 l0 x13_1).f3), .string ((rd_T95 l0 x13_1).f4.f0), .string ((rd_T95 l0 x13_1).f4.f1), .string ((rd_T95 l0 x13_1).f5), .string ((rd_T95 l0 x13_1).f6)] 95 (0, 0)) (by (with_reducible repeat (first | refine pkd ?_ _ | refine pke ?_ | refine pkf ?_ _)); exact BK184.out)) : gb184 ≠ gb186)); have n7_ := Aside0.mk ((by rw [hg]; exact Nat.ne_of_gt (blk_lt (g := gb184) (o := .cells #[.int .i64 ((rd_T95 l0 x13_1).f0.f0), .int .i64 ((rd_T95 l0 x13_1).f0.f1), .int .i64 ((rd_T95 l0 x13_1).f1), .int .i64 ((rd_T95 l0 x13_1).f2), .int .i64 ((rd_T95 l0 x13_1).f3), .string ((rd_T95 l0 x13_1).f4.f0), .string ((rd_T95 l0 x13_1).f4.f1), .string ((rd_T95 l0 x13_1).f5), .string ((rd_T95 l0 x13_1).f6)] 95 (0, 0)) (by (with_reducible repeat (first | refine pkd ?_ _ | refine pke ?_ | refine pkf ?_ _)); exact BK184.out)) : gb186 ≠ gb184)); clear HO_5; clear BK184; clear HB; have HO_5 := n0_; have BK184 := n1_; have HB := n2_; have BK186 := n3_; have GW186 := n4_; have GE186 := n5_; have NB184_186 := n6_; have NB186_184 := n7_; clear n0_ n1_ n2_ n3_ n4_ n5_ n6_ n7_; clear hb hbox hg; have hnb17 := NB186_184.out; have hnc17 := NB184_186.out; have hcz18_0 : w16.cell? ⟨gb186, 0, none⟩ = some (.int .i64 0) := (blk_cell BK186.out 0).trans rfl; have hcz18_1 : w16.cell? ⟨gb186, 1, none⟩ = some (.int .i64 0) := (blk_cell BK186.out 1).trans rfl; have hfz18_0 := blk_frozen BK186.out; obtain ⟨hcz19_0, hcz19_1, hcz19_2, hcz19_3, hcz19_4, hcz19_5, hcz19_6, hcz19_7, hcz19_8⟩ := pk_cells9 BK184.out; have hfz19_0 := blk_frozen BK184.out))
             go_roundg k2
             case measure => have := HK1.out; have := HK2.out; omega
             case rel => exact ⟨(decide (((rd_T95 l0 x13_1).f0.f0) ≤ ((rd_T25 l1 x19_2).f0))), (wrap64 (x19_2 + 1)), (by first | rfl | (simp; done) | (simp [pw_ne_nil, pw_eq_nil]; done) | (simp [*]; done)), (by first | rfl | (simp; done) | (simp [pw_ne_nil, pw_eq_nil]; done) | (simp [*]; done)), H', ⟨by have := HK1.out; have := HK2.out; omega⟩, ⟨by (with_reducible repeat (first | apply Kd.R_alloc | apply Kd.R_drewN | apply Kd.R_drew)); exact Kd.R_mono (Kd.R_far (p := ⟨gb186, 1, none⟩) (Kd.R_far (p := ⟨gb186, 0, none⟩) (Kd.R_types HO_5.out BK186.out (by decide)) (fun _ hk => hk.2) (.int .i64 ((rd_T25 l1 x19_2).f0))) (fun _ hk => hk.2) (.int .i64 ((rd_T25 l1 x19_2).f1))) (fun _ hk => hk.1)⟩, ⟨by (with_reducible repeat (first | refine pkd ?_ _ | refine pke ?_ | refine pkf ?_ _)); refine blk_far ?_ NB184_186.out _; (with_reducible repeat (first | refine pkd ?_ _ | refine pke ?_ | refine pkf ?_ _)); refine blk_far ?_ NB184_186.out _; (with_reducible repeat (first | refine pkd ?_ _ | refine pke ?_ | refine pkf ?_ _)); exact BK184.out⟩, ⟨by repeat (first | (with_reducible first | exact HB.out | apply pkA | apply pkN | apply pkD | refine below_set ?_ GE184.out | refine below_set ?_ GE186.out) | exact HB.out)⟩⟩
            ·rw [if_neg c15] at H
             have c15b0 : (((rd_T25 l1 x19_2).f1) == ((rd_T95 l0 x13_1).f0.f1)) = false := beq_eq_false_iff_ne.mpr c15
             have c15b1 : (((rd_T25 l1 x19_2).f1) != ((rd_T95 l0 x13_1).f0.f1)) = true := bne_iff_ne.mpr c15
             have H' := Aside0.mk H
             clear H
             have p185 : 0 ≤ (x19_2 : Int) := of_decide_eq_true (by first | (with_reducible assumption) | assumption)
             have q185 : x19_2 < (l1.length : Int) := of_decide_eq_true (by first | (with_reducible assumption) | assumption)
             obtain ⟨ad185, e185, hx185_0, hx185_1⟩ := at_T25 HR1.out x19_2 p185 q185
             cases e185
             replace hx185_0 := (HB.out.cell (World.block_lt_of_cell? w _ hx185_0)).trans hx185_0
             replace hx185_1 := (HB.out.cell (World.block_lt_of_cell? w _ hx185_1)).trans hx185_1
             replace p185 := eq_true p185
             replace q185 := eq_true q185
             go_wp2_with (first | ((with_reducible refine gate_dst (N := 10) rfl ?_); refine box_event ?hg (N := 10) ?hd (cs := #[.int .i64 0, .int .i64 0]) (t := 25) ?hr ?_; (case hd => rfl); (case hg => rfl); (case hr => first | (go_simp; done) | (go_simp; rfl)); intro gb186 hg w20 hbox hb; have n0_ := Aside0.mk (Kd.R_below (by (with_reducible repeat (first | apply Kd.R_alloc | apply Kd.R_drewN | apply Kd.R_drew)); exact HO_5.out) hb); have n1_ := Aside0.mk (blk_below (g := gb184) (o := .cells #[.int .i64 ((rd_T95 l0 x13_1).f0.f0), .int .i64 ((rd_T95 l0 x13_1).f0.f1), .int .i64 ((rd_T95 l0 x13_1).f1), .int .i64 ((rd_T95 l0 x13_1).f2), .int .i64 ((rd_T95 l0 x13_1).f3), .string ((rd_T95 l0 x13_1).f4.f0), .string ((rd_T95 l0 x13_1).f4.f1), .string ((rd_T95 l0 x13_1).f5), .string ((rd_T95 l0 x13_1).f6)] 95 (0, 0)) (by (with_reducible repeat (first | refine pkd ?_ _ | refine pke ?_ | refine pkf ?_ _)); exact BK184.out) hb); have n2_ := Aside0.mk (below_step (by repeat (first | (with_reducible first | exact HB.out | apply pkA | apply pkN | apply pkD | refine below_set ?_ GE184.out) | exact HB.out)) hb); have n3_ := Aside0.mk (hbox); have n4_ := Aside0.mk ((by rw [hg]; exact (below_size (by repeat (first | (with_reducible first | exact HB.out | apply pkA | apply pkN | apply pkD | refine below_set ?_ GE184.out) | exact HB.out))) : w.heap.size ≤ gb186)); have n5_ := Aside0.mk ((by rw [hg]; exact (below_size (by repeat (first | (with_reducible first | exact HB.out | apply pkA | apply pkN | apply pkD | refine below_set ?_ GE184.out) | exact HB.out))) : w.heap.size ≤ gb186)); have n6_ := Aside0.mk ((by rw [hg]; exact Nat.ne_of_lt (blk_lt (g := gb184) (o := .cells #[.int .i64 ((rd_T95 l0 x13_1).f0.f0), .int .i64 ((rd_T95 l0 x13_1).f0.f1), .int .i64 ((rd_T95 l0 x13_1).f1), .int .i64 ((rd_T95 l0 x13_1).f2), .int .i64 ((rd_T95 l0 x13_1).f3), .string ((rd_T95 l0 x13_1).f4.f0), .string ((rd_T95 l0 x13_1).f4.f1), .string ((rd_T95 l0 x13_1).f5), .string ((rd_T95 l0 x13_1).f6)] 95 (0, 0)) (by (with_reducible repeat (first | refine pkd ?_ _ | refine pke ?_ | refine pkf ?_ _)); exact BK184.out)) : gb184 ≠ gb186)); have n7_ := Aside0.mk ((by rw [hg]; exact Nat.ne_of_gt (blk_lt (g := gb184) (o := .cells #[.int .i64 ((rd_T95 l0 x13_1).f0.f0), .int .i64 ((rd_T95 l0 x13_1).f0.f1), .int .i64 ((rd_T95 l0 x13_1).f1), .int .i64 ((rd_T95 l0 x13_1).f2), .int .i64 ((rd_T95 l0 x13_1).f3), .string ((rd_T95 l0 x13_1).f4.f0), .string ((rd_T95 l0 x13_1).f4.f1), .string ((rd_T95 l0 x13_1).f5), .string ((rd_T95 l0 x13_1).f6)] 95 (0, 0)) (by (with_reducible repeat (first | refine pkd ?_ _ | refine pke ?_ | refine pkf ?_ _)); exact BK184.out)) : gb186 ≠ gb184)); clear HO_5; clear BK184; clear HB; have HO_5 := n0_; have BK184 := n1_; have HB := n2_; have BK186 := n3_; have GW186 := n4_; have GE186 := n5_; have NB184_186 := n6_; have NB186_184 := n7_; clear n0_ n1_ n2_ n3_ n4_ n5_ n6_ n7_; clear hb hbox hg; have hnb21 := NB186_184.out; have hnc21 := NB184_186.out; have hcz22_0 : w20.cell? ⟨gb186, 0, none⟩ = some (.int .i64 0) := (blk_cell BK186.out 0).trans rfl; have hcz22_1 : w20.cell? ⟨gb186, 1, none⟩ = some (.int .i64 0) := (blk_cell BK186.out 1).trans rfl; have hfz22_0 := blk_frozen BK186.out; obtain ⟨hcz23_0, hcz23_1, hcz23_2, hcz23_3, hcz23_4, hcz23_5, hcz23_6, hcz23_7, hcz23_8⟩ := pk_cells9 BK184.out; have hfz23_0 := blk_frozen BK184.out))
             go_roundg k2
             case measure => have := HK1.out; have := HK2.out; omega
             case rel => exact ⟨(false), (wrap64 (x19_2 + 1)), (by first | rfl | (simp; done) | (simp [pw_ne_nil, pw_eq_nil]; done) | (simp [*]; done)), (by first | rfl | (simp; done) | (simp [pw_ne_nil, pw_eq_nil]; done) | (simp [*]; done)), H', ⟨by have := HK1.out; have := HK2.out; omega⟩, ⟨by (with_reducible repeat (first | apply Kd.R_alloc | apply Kd.R_drewN | apply Kd.R_drew)); exact Kd.R_mono (Kd.R_far (p := ⟨gb186, 1, none⟩) (Kd.R_far (p := ⟨gb186, 0, none⟩) (Kd.R_types HO_5.out BK186.out (by decide)) (fun _ hk => hk.2) (.int .i64 ((rd_T25 l1 x19_2).f0))) (fun _ hk => hk.2) (.int .i64 ((rd_T25 l1 x19_2).f1))) (fun _ hk => hk.1)⟩, ⟨by (with_reducible repeat (first | refine pkd ?_ _ | refine pke ?_ | refine pkf ?_ _)); refine blk_far ?_ NB184_186.out _; (with_reducible repeat (first | refine pkd ?_ _ | refine pke ?_ | refine pkf ?_ _)); refine blk_far ?_ NB184_186.out _; (with_reducible repeat (first | refine pkd ?_ _ | refine pke ?_ | refine pkf ?_ _)); exact BK184.out⟩, ⟨by repeat (first | (with_reducible first | exact HB.out | apply pkA | apply pkN | apply pkD | refine below_set ?_ GE184.out | refine below_set ?_ GE186.out) | exact HB.out)⟩⟩
          ·rw [if_neg c10] at H
           exact absurd H (by simp)
         ·rw [if_neg c9] at H
          exact absurd H (by simp)
        ·rw [if_neg c8] at H
         have c8b0 : decide (x19_2 < (l1.length : Int)) = false := decide_eq_false c8
         clear c8
         by_cases c24 : x8_2 = true
         ·subst c24
          rw [if_pos rfl] at H
          have H' := Aside0.mk H
          clear H
          go_wp2
          go_roundg k2
          case measure => have := HK1.out; have := HK2.out; omega
          case rel => exact ⟨(x5_1), (wrap64 (x13_1 + 1)), (by first | rfl | (simp; done) | (simp [pw_ne_nil, pw_eq_nil]; done) | (simp [*]; done)), H', ⟨by have := HK1.out; have := HK2.out; omega⟩, ⟨by (with_reducible repeat (first | apply Kd.R_alloc | apply Kd.R_drewN | apply Kd.R_drew)); exact Kd.R_mono HO_5.out (fun _ hk => trivial)⟩, ⟨by repeat (first | (with_reducible first | exact HB.out | apply pkA | apply pkN | apply pkD | refine below_set ?_ GE184.out) | exact HB.out)⟩⟩
         ·replace c24 := Bool.eq_false_iff.mpr c24
          subst c24
          rw [if_neg (show ¬ (false = true) by decide)] at H
          by_cases c25 : x5_1.length < 1353245080339
          ·rw [if_pos c25] at H
           have LMc25 := Aside0.mk c25
           clear c25
           obtain ⟨y187, hy187⟩ : ∃ y_ : List (S95), y_ = (x5_1 ++ [(⟨(⟨((rd_T95 l0 x13_1).f0.f0), ((rd_T95 l0 x13_1).f0.f1)⟩ : S25), ((rd_T95 l0 x13_1).f1), ((rd_T95 l0 x13_1).f2), ((rd_T95 l0 x13_1).f3), (⟨((rd_T95 l0 x13_1).f4.f0), ((rd_T95 l0 x13_1).f4.f1)⟩ : S93), ((rd_T95 l0 x13_1).f5), ((rd_T95 l0 x13_1).f6)⟩ : S95)]) := ⟨_, rfl⟩
           replace H : (spec_l4Missing.l0 k2 l1 y187 l0 (l0.length : Int) (wrap64 (x13_1 + 1))) = some r := by first | (rw [hy187]; with_reducible exact H) | (have H2_ := (Option.bind_some _ _).symm.trans H; rw [hy187]; with_reducible exact H2_) | (have H2_ := (Option.bind_some _ _).symm.trans H; with_reducible exact H2_) | with_reducible exact H | (rw [hy187]; exact H) | exact H
           have Ny187 := Aside0.mk hy187
           clear hy187
           have H' := Aside0.mk H
           clear H
           obtain ⟨hcz26_0, hcz26_1, hcz26_2, hcz26_3, hcz26_4, hcz26_5, hcz26_6, hcz26_7, hcz26_8⟩ := pk_cells9 BK184.out
           have hfz26_0 := blk_frozen BK184.out
           go_wp2_with (first | ((with_reducible refine gate_builtin (b := .append) (xs := #[.tmp 43, .tmp 45]) rfl ?_); at_builtin; refine Kd.R_append k95 (w0 := w) w.heap.size rfl (.tmp 43) (.tmp 45) 27 95 (.agg #[(.int .i64 0), (.int .i64 0), (.int .i64 0), (.int .i64 0), (.int .i64 0), (.string ⟨#[]⟩), (.string ⟨#[]⟩), (.string ⟨#[]⟩), (.string ⟨#[]⟩)]) 104 rfl Try.underlying27 info95 rfl (by decide) (by omega) u5 x5_1 (⟨(⟨((rd_T95 l0 x13_1).f0.f0), ((rd_T95 l0 x13_1).f0.f1)⟩ : S25), ((rd_T95 l0 x13_1).f1), ((rd_T95 l0 x13_1).f2), ((rd_T95 l0 x13_1).f3), (⟨((rd_T95 l0 x13_1).f4.f0), ((rd_T95 l0 x13_1).f4.f1)⟩ : S93), ((rd_T95 l0 x13_1).f5), ((rd_T95 l0 x13_1).f6)⟩ : S95) [.int .i64 ((rd_T95 l0 x13_1).f0.f0), .int .i64 ((rd_T95 l0 x13_1).f0.f1), .int .i64 ((rd_T95 l0 x13_1).f1), .int .i64 ((rd_T95 l0 x13_1).f2), .int .i64 ((rd_T95 l0 x13_1).f3), .string ((rd_T95 l0 x13_1).f4.f0), .string ((rd_T95 l0 x13_1).f4.f1), .string ((rd_T95 l0 x13_1).f5), .string ((rd_T95 l0 x13_1).f6)] (fun k_ => k_ ≠ gb184) (fun _ => False) rfl rfl ?aP (fun _ hk => hk.elim) ?aF ?aO ?aB ?aS ?aL ?_; (case aP => exact k95_mkM _ _ _ (⟨(⟨((rd_T95 l0 x13_1).f0.f0), ((rd_T95 l0 x13_1).f0.f1)⟩ : S25), ((rd_T95 l0 x13_1).f1), ((rd_T95 l0 x13_1).f2), ((rd_T95 l0 x13_1).f3), (⟨((rd_T95 l0 x13_1).f4.f0), ((rd_T95 l0 x13_1).f4.f1)⟩ : S93), ((rd_T95 l0 x13_1).f5), ((rd_T95 l0 x13_1).f6)⟩ : S95)); (case aB => exact (by repeat (first | (with_reducible first | exact HB.out | apply pkA | apply pkN | apply pkD | refine below_set ?_ GE184.out) | exact HB.out))); (case aF => exact (fun k_ hk => Kd.freshB (g := gb184) (o := .cells #[.int .i64 ((rd_T95 l0 x13_1).f0.f0), .int .i64 ((rd_T95 l0 x13_1).f0.f1), .int .i64 ((rd_T95 l0 x13_1).f1), .int .i64 ((rd_T95 l0 x13_1).f2), .int .i64 ((rd_T95 l0 x13_1).f3), .string ((rd_T95 l0 x13_1).f4.f0), .string ((rd_T95 l0 x13_1).f4.f1), .string ((rd_T95 l0 x13_1).f5), .string ((rd_T95 l0 x13_1).f6)] 95 (0, 0)) (by (with_reducible repeat (first | refine pkd ?_ _ | refine pke ?_ | refine pkf ?_ _)); exact BK184.out) k_ hk)); (case aO => exact (by (with_reducible repeat (first | apply Kd.R_alloc | apply Kd.R_drewN | apply Kd.R_drew)); exact HO_5.out)); (case aS => exact (below_size (by repeat (first | (with_reducible first | exact HB.out | apply pkA | apply pkN | apply pkD | refine below_set ?_ GE184.out) | exact HB.out)))); (case aL => have := LMc25.out; omega); intro v188 w27 ho hb hg hat; rw [← Ny187.out] at ho; have n0_ := Aside0.mk (blk_grown (g := gb184) (o := .cells #[.int .i64 ((rd_T95 l0 x13_1).f0.f0), .int .i64 ((rd_T95 l0 x13_1).f0.f1), .int .i64 ((rd_T95 l0 x13_1).f1), .int .i64 ((rd_T95 l0 x13_1).f2), .int .i64 ((rd_T95 l0 x13_1).f3), .string ((rd_T95 l0 x13_1).f4.f0), .string ((rd_T95 l0 x13_1).f4.f1), .string ((rd_T95 l0 x13_1).f5), .string ((rd_T95 l0 x13_1).f6)] 95 (0, 0)) (by (with_reducible repeat (first | refine pkd ?_ _ | refine pke ?_ | refine pkf ?_ _)); exact BK184.out) hg (Kd.R_away HO_5.out (fun _ hk => hk))); have n1_ := Aside0.mk (hb); have n2_ := Aside0.mk (ho); clear BK184; clear HB; clear HO_5; have BK184 := n0_; have HB := n1_; have HO189 := n2_; clear n0_ n1_ n2_; clear ho hb hg hat))
           go_roundg k2
           case measure => have := HK1.out; have := HK2.out; omega
           case rel => exact ⟨(y187), (wrap64 (x13_1 + 1)), (by first | rfl | (simp; done) | (simp [pw_ne_nil, pw_eq_nil]; done) | (simp [*]; done)), H', ⟨by have := HK1.out; have := HK2.out; omega⟩, ⟨by (with_reducible repeat (first | apply Kd.R_alloc | apply Kd.R_drewN | apply Kd.R_drew)); exact Kd.R_mono HO189.out (fun _ hk => trivial)⟩, ⟨by repeat (first | (with_reducible first | exact HB.out | apply pkA | apply pkN | apply pkD | refine below_set ?_ GE184.out) | exact HB.out)⟩⟩
          ·rw [if_neg c25] at H
           exact absurd H (by simp)
     ·rw [if_neg c5] at H
      exact absurd H (by simp)
    ·rw [if_neg c4] at H
     exact absurd H (by simp)
   ·rw [if_neg c3] at H
    have c3b0 : decide (x13_1 < (l0.length : Int)) = false := decide_eq_false c3
    clear c3
    obtain rfl := Option.some.inj H
    go_wp2
    go_ret
    exact ⟨_, by first | rfl | (simp [errW_none, errW_some] <;> rfl) | (simp [*, errW_none, errW_some] <;> rfl), by (with_reducible repeat (first | apply Kd.R_alloc | apply Kd.R_drewN | apply Kd.R_drew)); exact HO_5.out, by repeat (first | (with_reducible first | exact HB.out | apply pkA | apply pkN | apply pkD) | exact HB.out)⟩

/-! ### spec_Missing: function 32 -/
mutual
def spec_Missing.j0 : Nat → List (S95) → List (S25) → Bool → Option ((List (S95)))
 | 0, _, _, _ => none
 | k + 1, x0, x1, x13 => if x13 = true then (some ([] : List (S95))) else (spec_Missing.l0 k x0 x1 (x1.length : Int) 0)
def spec_Missing.l0 : Nat → List (S95) → List (S25) → Int → Int → Option ((List (S95)))
 | 0, _, _, _, _ => none
 | k + 1, x0, x1, x15, x16 => if x16 < x15 then (if x16 > 0 then (if 0 ≤ (wrap64 (x16 - 1)) then (if (wrap64 (x16 - 1)) < (x1.length : Int) then (if 0 ≤ x16 then (if x16 < (x1.length : Int) then (if ((rd_T25 x1 (wrap64 (x16 - 1))).f1) ≥ ((rd_T25 x1 x16).f1) then (some ([] : List (S95))) else (spec_Missing.l0 k x0 x1 x15 (wrap64 (x16 + 1)))) else (none)) else (none)) else (none)) else (none)) else (spec_Missing.l0 k x0 x1 x15 (wrap64 (x16 + 1)))) else ((spec_l4Missing.f k x0 x1).bind fun t193 => (some t193))
end
def spec_Missing.f (k : Nat) (l0 : List (S95)) (l1 : List (S25)) : Option ((List (S95))) := (spec_GoodLog.f k l0).bind fun t190 => (if t190 = true then (spec_Missing.j0 k l0 l1 (decide ((l1.length : Int) > 100))) else (spec_Missing.j0 k l0 l1 true))
theorem spec_Missing.mono_l : ∀ k, (∀ y0 y1 y2, LeO (spec_Missing.j0 k y0 y1 y2) (spec_Missing.j0 (k + 1) y0 y1 y2)) ∧ (∀ y0 y1 y2 y3, LeO (spec_Missing.l0 k y0 y1 y2 y3) (spec_Missing.l0 (k + 1) y0 y1 y2 y3))
 | 0 => ⟨fun _ _ _ r h => by simp [spec_Missing.j0] at h, fun _ _ _ _ r h => by simp [spec_Missing.l0] at h⟩
 | k + 1 => by
  obtain ⟨ih0, ih1⟩ := spec_Missing.mono_l k
  refine ⟨?_, ?_⟩
  ·intro y0 y1 y2
   unfold spec_Missing.j0
   repeat' first
   | (with_reducible exact ih0 _ _ _)
   | (with_reducible exact ih1 _ _ _ _)
   | (with_reducible exact spec_GoodLog.mono _ _)
   | (with_reducible exact spec_l4Missing.mono _ _ _)
   | (with_reducible exact LeO.refl _)
   | (with_reducible exact LeO.none _)
   | (with_reducible refine LeO.ite ?_ ?_)
   | (with_reducible refine LeO.bind ?_ (fun _ => ?_))
   | exact ih0 _ _ _
   | exact ih1 _ _ _ _
   | exact spec_GoodLog.mono _ _
   | exact spec_l4Missing.mono _ _ _
   | exact LeO.none _
   | refine LeO.ite ?_ ?_
   | refine LeO.bind ?_ (fun _ => ?_)
  ·intro y0 y1 y2 y3
   unfold spec_Missing.l0
   repeat' first
   | (with_reducible exact ih0 _ _ _)
   | (with_reducible exact ih1 _ _ _ _)
   | (with_reducible exact spec_GoodLog.mono _ _)
   | (with_reducible exact spec_l4Missing.mono _ _ _)
   | (with_reducible exact LeO.refl _)
   | (with_reducible exact LeO.none _)
   | (with_reducible refine LeO.ite ?_ ?_)
   | (with_reducible refine LeO.bind ?_ (fun _ => ?_))
   | exact ih0 _ _ _
   | exact ih1 _ _ _ _
   | exact spec_GoodLog.mono _ _
   | exact spec_l4Missing.mono _ _ _
   | exact LeO.none _
   | refine LeO.ite ?_ ?_
   | refine LeO.bind ?_ (fun _ => ?_)
theorem spec_Missing.mono : ∀ a0 a1 k, LeO (spec_Missing.f k a0 a1) (spec_Missing.f (k + 1) a0 a1) := by
 intro a0 a1 k
 obtain ⟨ih0, ih1⟩ := spec_Missing.mono_l k
 unfold spec_Missing.f
 repeat' first
   | (with_reducible exact ih0 _ _ _)
   | (with_reducible exact ih1 _ _ _ _)
   | (with_reducible exact spec_GoodLog.mono _ _)
   | (with_reducible exact spec_l4Missing.mono _ _ _)
   | (with_reducible exact LeO.refl _)
   | (with_reducible exact LeO.none _)
   | (with_reducible refine LeO.ite ?_ ?_)
   | (with_reducible refine LeO.bind ?_ (fun _ => ?_))
   | exact ih0 _ _ _
   | exact ih1 _ _ _ _
   | exact spec_GoodLog.mono _ _
   | exact spec_l4Missing.mono _ _ _
   | exact LeO.none _
   | refine LeO.ite ?_ ?_
   | refine LeO.bind ?_ (fun _ => ?_)
set_option maxHeartbeats 8000000 in
set_option maxRecDepth 100000 in
theorem spec_Missing.calls (k : Nat) (A0 : Option Addr) (c0 : Nat) (l0 : List (S95)) (A1 : Option Addr) (c1 : Nat) (l1 : List (S25)) (r : List (S95)) (w : World) (hr0 : Kd.C k95 w A0 l0.length l0) (hc0 : l0.length ≤ c0) (hr1 : Kd.C k25 w A1 l1.length l1) (hc1 : l1.length ≤ c1) (h : spec_Missing.f k l0 l1 = some r) :
  Calls Try.prog 32 #[.slice A0 l0.length c0, .slice A1 l1.length c1] w fun e w' => ∃ v0_ : Value, e = .returned (v0_) ∧ Kd.R k95 95 w' w.heap.size (fun _ => True) v0_ r ∧ Below w.heap.size w w' := by
 have HR0 := Aside0.mk hr0
 have HC0 := Aside0.mk hc0
 clear hr0 hc0
 have HR1 := Aside0.mk hr1
 have HC1 := Aside0.mk hc1
 clear hr1 hc1
 have HB := Aside0.mk (Below.refl w.heap.size w)
 have H : ((spec_GoodLog.f k l0).bind fun t190 => (if t190 = true then (spec_Missing.j0 k l0 l1 (decide ((l1.length : Int) > 100))) else (spec_Missing.j0 k l0 l1 true))) = some r := h
 clear h
 have HC3 := Aside0.mk H
 clear H
 go_enter Try.func32, Try.ntmps32
 go_upto_region 1 with (fail)
 repeat (go_quiet (fail); go_upto_region 1 with (fail))
 go_cut [13] (fun v13 wc => ∃ (kq : Nat) (x13_2 : Bool), v13 = .bool x13_2 ∧ Aside0 (spec_Missing.j0 kq l0 l1 x13_2 = some r) ∧ Aside0 (kq ≤ k) ∧ Aside0 (Below w.heap.size w wc))
 case first =>
  have H := HC3.out
  clear HC3
  replace H := Option.bind_eq_some_iff.mp H
  obtain ⟨t190, A40, H⟩ := H
  try dsimp only at H
  have A4 := Aside0.mk A40
  clear A40
  by_cases c5 : t190 = true
  ·subst c5
   rw [if_pos rfl] at H
   have H' := Aside0.mk H
   clear H
   go_wp2_with (first | (go_at_call 47; (with_reducible refine (spec_GoodLog.calls k _ _ l0 true _ ?side1 ?side2 A4.out).mono ?_); (case side1 => repeat (first | exact (Kd.C_below HR0.out HB.out) | (with_reducible refine Kd.C_alloc ?_ _) | (with_reducible refine Kd.C_drewN ?_ _) | (with_reducible refine Kd.C_drew ?_))); (case side2 => exact HC0.out); rintro e w6 ⟨rfl, hb⟩; have n0_ := Aside0.mk (below_step (by repeat (first | (with_reducible first | exact HB.out | apply pkA | apply pkN | apply pkD) | exact HB.out)) hb); clear HB; have HB := n0_; clear n0_; (try clear hb); (try clear hb2); (try clear hk); (try clear hi)))
   repeat (go_quiet (first | (go_at_call 47; (with_reducible refine (spec_GoodLog.calls k _ _ l0 true _ ?side1 ?side2 A4.out).mono ?_); (case side1 => repeat (first | exact (Kd.C_below HR0.out HB.out) | (with_reducible refine Kd.C_alloc ?_ _) | (with_reducible refine Kd.C_drewN ?_ _) | (with_reducible refine Kd.C_drew ?_))); (case side2 => exact HC0.out); rintro e w6 ⟨rfl, hb⟩; have n0_ := Aside0.mk (below_step (by repeat (first | (with_reducible first | exact HB.out | apply pkA | apply pkN | apply pkD) | exact HB.out)) hb); clear HB; have HB := n0_; clear n0_; (try clear hb); (try clear hb2); (try clear hk); (try clear hi))); try go_wp2_with (first | (go_at_call 47; (with_reducible refine (spec_GoodLog.calls k _ _ l0 true _ ?side1 ?side2 A4.out).mono ?_); (case side1 => repeat (first | exact (Kd.C_below HR0.out HB.out) | (with_reducible refine Kd.C_alloc ?_ _) | (with_reducible refine Kd.C_drewN ?_ _) | (with_reducible refine Kd.C_drew ?_))); (case side2 => exact HC0.out); rintro e w6 ⟨rfl, hb⟩; have n0_ := Aside0.mk (below_step (by repeat (first | (with_reducible first | exact HB.out | apply pkA | apply pkN | apply pkD) | exact HB.out)) hb); clear HB; have HB := n0_; clear n0_; (try clear hb); (try clear hb2); (try clear hk); (try clear hi))))
   go_meet
   case rel => exact ⟨_, (decide ((l1.length : Int) > 100)), (by first | rfl | (simp; done) | (simp [pw_ne_nil, pw_eq_nil]; done) | (simp [*]; done)), H', ⟨by first | omega | exact Nat.le_refl _⟩, ⟨by repeat (first | (with_reducible first | exact HB.out | apply pkA | apply pkN | apply pkD) | exact HB.out)⟩⟩
  ·replace c5 := Bool.eq_false_iff.mpr c5
   subst c5
   rw [if_neg (show ¬ (false = true) by decide)] at H
   have H' := Aside0.mk H
   clear H
   go_wp2_with (first | (go_at_call 47; (with_reducible refine (spec_GoodLog.calls k _ _ l0 false _ ?side1 ?side2 A4.out).mono ?_); (case side1 => repeat (first | exact (Kd.C_below HR0.out HB.out) | (with_reducible refine Kd.C_alloc ?_ _) | (with_reducible refine Kd.C_drewN ?_ _) | (with_reducible refine Kd.C_drew ?_))); (case side2 => exact HC0.out); rintro e w7 ⟨rfl, hb⟩; have n0_ := Aside0.mk (below_step (by repeat (first | (with_reducible first | exact HB.out | apply pkA | apply pkN | apply pkD) | exact HB.out)) hb); clear HB; have HB := n0_; clear n0_; (try clear hb); (try clear hb2); (try clear hk); (try clear hi)))
   repeat (go_quiet (first | (go_at_call 47; (with_reducible refine (spec_GoodLog.calls k _ _ l0 false _ ?side1 ?side2 A4.out).mono ?_); (case side1 => repeat (first | exact (Kd.C_below HR0.out HB.out) | (with_reducible refine Kd.C_alloc ?_ _) | (with_reducible refine Kd.C_drewN ?_ _) | (with_reducible refine Kd.C_drew ?_))); (case side2 => exact HC0.out); rintro e w7 ⟨rfl, hb⟩; have n0_ := Aside0.mk (below_step (by repeat (first | (with_reducible first | exact HB.out | apply pkA | apply pkN | apply pkD) | exact HB.out)) hb); clear HB; have HB := n0_; clear n0_; (try clear hb); (try clear hb2); (try clear hk); (try clear hi))); try go_wp2_with (first | (go_at_call 47; (with_reducible refine (spec_GoodLog.calls k _ _ l0 false _ ?side1 ?side2 A4.out).mono ?_); (case side1 => repeat (first | exact (Kd.C_below HR0.out HB.out) | (with_reducible refine Kd.C_alloc ?_ _) | (with_reducible refine Kd.C_drewN ?_ _) | (with_reducible refine Kd.C_drew ?_))); (case side2 => exact HC0.out); rintro e w7 ⟨rfl, hb⟩; have n0_ := Aside0.mk (below_step (by repeat (first | (with_reducible first | exact HB.out | apply pkA | apply pkN | apply pkD) | exact HB.out)) hb); clear HB; have HB := n0_; clear n0_; (try clear hb); (try clear hb2); (try clear hk); (try clear hi))))
   go_meet
   case rel => exact ⟨_, (true), (by first | rfl | (simp; done) | (simp [pw_ne_nil, pw_eq_nil]; done) | (simp [*]; done)), H', ⟨by first | omega | exact Nat.le_refl _⟩, ⟨by repeat (first | (with_reducible first | exact HB.out | apply pkA | apply pkN | apply pkD) | exact HB.out)⟩⟩
 case rest =>
  clear HC3
  try clear c1; try clear p2; try clear c3; try clear c5
  obtain ⟨kq, x13_2, rfl, HA, HJ2, HB⟩ := hcut
  cases kq with
  | zero => exact absurd HA.out (by simp [spec_Missing.j0])
  | succ kj2 =>
   have H := HA.out
   clear HA
   simp only [spec_Missing.j0] at H
   by_cases c8 : x13_2 = true
   ·subst c8
    rw [if_pos rfl] at H
    obtain rfl := Option.some.inj H
    go_wp2
    repeat (go_quiet (fail); try go_wp2)
    go_ret
    exact ⟨_, by first | rfl | (simp [errW_none, errW_some] <;> rfl) | (simp [*, errW_none, errW_some] <;> rfl), by first | exact Kd.R_nil _ _ _ _ _ | exact Kd.N_nil _ _ _ _ _ | exact Kd.V_nil _ _ _ _ _ | exact Kd.Q_nil _ _ _ _ _ | exact Kd.S_nil _ _ _ _ _, by repeat (first | (with_reducible first | exact HB.out | apply pkA | apply pkN | apply pkD) | exact HB.out)⟩
   ·replace c8 := Bool.eq_false_iff.mpr c8
    subst c8
    rw [if_neg (show ¬ (false = true) by decide)] at H
    have H' := Aside0.mk H
    clear H
    go_wp2
    repeat (go_quiet (fail); try go_wp2)
    go_loopg [16] kj2 (fun kq v16 w' => ∃ (x16_2 : Int), v16 = .int .i64 x16_2 ∧ Aside0 (spec_Missing.l0 kq l0 l1 (l1.length : Int) x16_2 = some r) ∧ Aside0 (kq ≤ kj2) ∧ Aside0 (Below w.heap.size w w'))
    case atStart => exact ⟨(0), (by first | rfl | (simp; done) | (simp [pw_ne_nil, pw_eq_nil]; done) | (simp [*]; done)), H', ⟨Nat.le_refl _⟩, ⟨by repeat (first | (with_reducible first | exact HB.out | apply pkA | apply pkN | apply pkD) | exact HB.out)⟩⟩
    case round =>
     clear H'
     try clear c1; try clear p2; try clear c3; try clear c5; try clear c8; try clear p2
     obtain ⟨x16_2, rfl, HA, HK2, HB⟩ := hrel
     cases gk with
     | zero => exact absurd HA.out (by simp [spec_Missing.l0])
     | succ k2 =>
      have H := HA.out
      clear HA
      simp only [spec_Missing.l0] at H
      by_cases c9 : x16_2 < (l1.length : Int)
      ·rw [if_pos c9] at H
       have c9b0 : decide (x16_2 < (l1.length : Int)) = true := decide_eq_true c9
       clear c9
       by_cases c10 : x16_2 > 0
       ·rw [if_pos c10] at H
        have c10b0 : decide (0 < x16_2) = true := decide_eq_true c10
        clear c10
        obtain ⟨ji11, hji11⟩ : ∃ j_ : Int, (wrap64 (x16_2 - 1)) = j_ := ⟨_, rfl⟩
        replace H : (if 0 ≤ (ji11) then (if (ji11) < (l1.length : Int) then (if 0 ≤ x16_2 then (if x16_2 < (l1.length : Int) then (if ((rd_T25 l1 (ji11)).f1) ≥ ((rd_T25 l1 x16_2).f1) then (some ([] : List (S95))) else (spec_Missing.l0 k2 l0 l1 (l1.length : Int) (wrap64 (x16_2 + 1)))) else (none)) else (none)) else (none)) else (none)) = some r := by first | (rw [hji11] at H; exact H) | (simp only [hji11] at H ⊢; exact H)
        have hji11w : (IntKind.i64.wrap (x16_2 - 1)) = ji11 := (i64_w _).trans hji11
        by_cases c12 : 0 ≤ (ji11)
        ·rw [if_pos c12] at H
         have c12b0 : decide (0 ≤ (ji11)) = true := decide_eq_true c12
         clear c12
         by_cases c13 : (ji11) < (l1.length : Int)
         ·rw [if_pos c13] at H
          have c13b0 : decide ((ji11) < (l1.length : Int)) = true := decide_eq_true c13
          clear c13
          by_cases c14 : 0 ≤ x16_2
          ·rw [if_pos c14] at H
           have c14b0 : decide (0 ≤ x16_2) = true := decide_eq_true c14
           clear c14
           by_cases c15 : x16_2 < (l1.length : Int)
           ·rw [if_pos c15] at H
            have c15b0 : decide (x16_2 < (l1.length : Int)) = true := decide_eq_true c15
            clear c15
            by_cases c16 : ((rd_T25 l1 (ji11)).f1) ≥ ((rd_T25 l1 x16_2).f1)
            ·rw [if_pos c16] at H
             have c16b0 : decide (((rd_T25 l1 x16_2).f1) ≤ ((rd_T25 l1 (ji11)).f1)) = true := decide_eq_true c16
             clear c16
             obtain rfl := Option.some.inj H
             have p191 : 0 ≤ ((ji11) : Int) := of_decide_eq_true (by first | (with_reducible assumption) | assumption)
             have q191 : (ji11) < (l1.length : Int) := of_decide_eq_true (by first | (with_reducible assumption) | assumption)
             obtain ⟨ad191, e191, hx191_0, hx191_1⟩ := at_T25 HR1.out (ji11) p191 q191
             cases e191
             replace hx191_0 := (HB.out.cell (World.block_lt_of_cell? w _ hx191_0)).trans hx191_0
             replace hx191_1 := (HB.out.cell (World.block_lt_of_cell? w _ hx191_1)).trans hx191_1
             replace p191 := eq_true p191
             replace q191 := eq_true q191
             have p192 : 0 ≤ (x16_2 : Int) := of_decide_eq_true (by first | (with_reducible assumption) | assumption)
             have q192 : x16_2 < (l1.length : Int) := of_decide_eq_true (by first | (with_reducible assumption) | assumption)
             obtain ⟨ad192, e192, hx192_0, hx192_1⟩ := at_T25 HR1.out x16_2 p192 q192
             obtain rfl : ad191 = ad192 := (by injection e192)
             replace hx192_0 := (HB.out.cell (World.block_lt_of_cell? w _ hx192_0)).trans hx192_0
             replace hx192_1 := (HB.out.cell (World.block_lt_of_cell? w _ hx192_1)).trans hx192_1
             replace p192 := eq_true p192
             replace q192 := eq_true q192
             go_wp2
             repeat (go_quiet (fail); try go_wp2)
             go_ret
             exact ⟨_, by first | rfl | (simp [errW_none, errW_some] <;> rfl) | (simp only [← hji11]; first | rfl | (simp [errW_none, errW_some] <;> rfl)) | (simp [*, errW_none, errW_some] <;> rfl), by first | exact Kd.R_nil _ _ _ _ _ | exact Kd.N_nil _ _ _ _ _ | exact Kd.V_nil _ _ _ _ _ | exact Kd.Q_nil _ _ _ _ _ | exact Kd.S_nil _ _ _ _ _, by repeat (first | (with_reducible first | exact HB.out | apply pkA | apply pkN | apply pkD) | exact HB.out)⟩
            ·rw [if_neg c16] at H
             have c16b0 : decide (((rd_T25 l1 x16_2).f1) ≤ ((rd_T25 l1 (ji11)).f1)) = false := decide_eq_false c16
             clear c16
             have H' := Aside0.mk H
             clear H
             have p191 : 0 ≤ ((ji11) : Int) := of_decide_eq_true (by first | (with_reducible assumption) | assumption)
             have q191 : (ji11) < (l1.length : Int) := of_decide_eq_true (by first | (with_reducible assumption) | assumption)
             obtain ⟨ad191, e191, hx191_0, hx191_1⟩ := at_T25 HR1.out (ji11) p191 q191
             cases e191
             replace hx191_0 := (HB.out.cell (World.block_lt_of_cell? w _ hx191_0)).trans hx191_0
             replace hx191_1 := (HB.out.cell (World.block_lt_of_cell? w _ hx191_1)).trans hx191_1
             replace p191 := eq_true p191
             replace q191 := eq_true q191
             have p192 : 0 ≤ (x16_2 : Int) := of_decide_eq_true (by first | (with_reducible assumption) | assumption)
             have q192 : x16_2 < (l1.length : Int) := of_decide_eq_true (by first | (with_reducible assumption) | assumption)
             obtain ⟨ad192, e192, hx192_0, hx192_1⟩ := at_T25 HR1.out x16_2 p192 q192
             obtain rfl : ad191 = ad192 := (by injection e192)
             replace hx192_0 := (HB.out.cell (World.block_lt_of_cell? w _ hx192_0)).trans hx192_0
             replace hx192_1 := (HB.out.cell (World.block_lt_of_cell? w _ hx192_1)).trans hx192_1
             replace p192 := eq_true p192
             replace q192 := eq_true q192
             go_wp2
             repeat (go_quiet (fail); try go_wp2)
             go_roundg k2
             case measure => have := HJ2.out; have := HK2.out; omega
             case rel => exact ⟨(wrap64 (x16_2 + 1)), (by first | rfl | (simp; done) | (simp [pw_ne_nil, pw_eq_nil]; done) | (simp [*]; done)), H', ⟨by have := HJ2.out; have := HK2.out; omega⟩, ⟨by repeat (first | (with_reducible first | exact HB.out | apply pkA | apply pkN | apply pkD) | exact HB.out)⟩⟩
           ·rw [if_neg c15] at H
            exact absurd H (by simp)
          ·rw [if_neg c14] at H
           exact absurd H (by simp)
         ·rw [if_neg c13] at H
          exact absurd H (by simp)
        ·rw [if_neg c12] at H
         exact absurd H (by simp)
       ·rw [if_neg c10] at H
        have c10b0 : decide (0 < x16_2) = false := decide_eq_false c10
        clear c10
        have H' := Aside0.mk H
        clear H
        go_wp2
        repeat (go_quiet (fail); try go_wp2)
        go_roundg k2
        case measure => have := HJ2.out; have := HK2.out; omega
        case rel => exact ⟨(wrap64 (x16_2 + 1)), (by first | rfl | (simp; done) | (simp [pw_ne_nil, pw_eq_nil]; done) | (simp [*]; done)), H', ⟨by have := HJ2.out; have := HK2.out; omega⟩, ⟨by repeat (first | (with_reducible first | exact HB.out | apply pkA | apply pkN | apply pkD) | exact HB.out)⟩⟩
      ·rw [if_neg c9] at H
       have c9b0 : decide (x16_2 < (l1.length : Int)) = false := decide_eq_false c9
       clear c9
       replace H := Option.bind_eq_some_iff.mp H
       obtain ⟨t193, A170, H⟩ := H
       try dsimp only at H
       have A17 := Aside0.mk A170
       clear A170
       obtain rfl := Option.some.inj H
       go_wp2_with (first | (go_at_call 69; (with_reducible refine (spec_l4Missing.calls k2 _ _ l0 _ _ l1 t193 _ ?side1 ?side2 ?side3 ?side4 A17.out).mono ?_); (case side1 => repeat (first | exact (Kd.C_below HR0.out HB.out) | (with_reducible refine Kd.C_alloc ?_ _) | (with_reducible refine Kd.C_drewN ?_ _) | (with_reducible refine Kd.C_drew ?_))); (case side2 => exact HC0.out); (case side3 => repeat (first | exact (Kd.C_below HR1.out HB.out) | (with_reducible refine Kd.C_alloc ?_ _) | (with_reducible refine Kd.C_drewN ?_ _) | (with_reducible refine Kd.C_drew ?_))); (case side4 => exact HC1.out); rintro e w18 ⟨v194, rfl, ho0, hb⟩; have n0_ := Aside0.mk (Kd.R_lower ho0 (below_size (by repeat (first | (with_reducible first | exact HB.out | apply pkA | apply pkN | apply pkD) | exact HB.out)))); have n1_ := Aside0.mk (below_step (by repeat (first | (with_reducible first | exact HB.out | apply pkA | apply pkN | apply pkD) | exact HB.out)) hb); clear HB; have HO195 := n0_; have HB := n1_; clear n0_ n1_; (try clear hb); (try clear hb2); (try clear hk); (try clear hi); (try clear ho0)))
       repeat (go_quiet (first | (go_at_call 69; (with_reducible refine (spec_l4Missing.calls k2 _ _ l0 _ _ l1 t193 _ ?side1 ?side2 ?side3 ?side4 A17.out).mono ?_); (case side1 => repeat (first | exact (Kd.C_below HR0.out HB.out) | (with_reducible refine Kd.C_alloc ?_ _) | (with_reducible refine Kd.C_drewN ?_ _) | (with_reducible refine Kd.C_drew ?_))); (case side2 => exact HC0.out); (case side3 => repeat (first | exact (Kd.C_below HR1.out HB.out) | (with_reducible refine Kd.C_alloc ?_ _) | (with_reducible refine Kd.C_drewN ?_ _) | (with_reducible refine Kd.C_drew ?_))); (case side4 => exact HC1.out); rintro e w18 ⟨v194, rfl, ho0, hb⟩; have n0_ := Aside0.mk (Kd.R_lower ho0 (below_size (by repeat (first | (with_reducible first | exact HB.out | apply pkA | apply pkN | apply pkD) | exact HB.out)))); have n1_ := Aside0.mk (below_step (by repeat (first | (with_reducible first | exact HB.out | apply pkA | apply pkN | apply pkD) | exact HB.out)) hb); clear HB; have HO195 := n0_; have HB := n1_; clear n0_ n1_; (try clear hb); (try clear hb2); (try clear hk); (try clear hi); (try clear ho0))); try go_wp2_with (first | (go_at_call 69; (with_reducible refine (spec_l4Missing.calls k2 _ _ l0 _ _ l1 t193 _ ?side1 ?side2 ?side3 ?side4 A17.out).mono ?_); (case side1 => repeat (first | exact (Kd.C_below HR0.out HB.out) | (with_reducible refine Kd.C_alloc ?_ _) | (with_reducible refine Kd.C_drewN ?_ _) | (with_reducible refine Kd.C_drew ?_))); (case side2 => exact HC0.out); (case side3 => repeat (first | exact (Kd.C_below HR1.out HB.out) | (with_reducible refine Kd.C_alloc ?_ _) | (with_reducible refine Kd.C_drewN ?_ _) | (with_reducible refine Kd.C_drew ?_))); (case side4 => exact HC1.out); rintro e w18 ⟨v194, rfl, ho0, hb⟩; have n0_ := Aside0.mk (Kd.R_lower ho0 (below_size (by repeat (first | (with_reducible first | exact HB.out | apply pkA | apply pkN | apply pkD) | exact HB.out)))); have n1_ := Aside0.mk (below_step (by repeat (first | (with_reducible first | exact HB.out | apply pkA | apply pkN | apply pkD) | exact HB.out)) hb); clear HB; have HO195 := n0_; have HB := n1_; clear n0_ n1_; (try clear hb); (try clear hb2); (try clear hk); (try clear hi); (try clear ho0))))
       go_ret
       exact ⟨_, by first | rfl | (simp [errW_none, errW_some] <;> rfl) | (simp [*, errW_none, errW_some] <;> rfl), by (with_reducible repeat (first | apply Kd.R_alloc | apply Kd.R_drewN | apply Kd.R_drew)); exact HO195.out, by repeat (first | (with_reducible first | exact HB.out | apply pkA | apply pkN | apply pkD) | exact HB.out)⟩

/-! ### laws_toStampS: function 33 -/
def laws_toStampS.l0 : Nat → List (S87) → List (S25) → Int → Option ((List (S25)))
 | 0, _, _, _ => none
 | k + 1, x0, x3, x4 => if x4 < (x0.length : Int) then (if 0 ≤ x4 then ((laws_toStamp.f ((rd_T87 x0 x4).f0) ((rd_T87 x0 x4).f1)).bind fun bt200 => (if x4 < (x3.length : Int) then (laws_toStampS.l0 k x0 (x3.set (x4 : Int).toNat (⟨bt200.1, bt200.2⟩ : S25)) (wrap64 (x4 + 1))) else (none))) else (none)) else (some x3)
def laws_toStampS.f (k : Nat) (l0 : List (S87)) : Option ((List (S25))) := if 0 ≤ (l0.length : Int) then (if ((l0.length : Int) : Int).toNat ≤ 17592186044416 then (laws_toStampS.l0 k l0 (List.replicate ((l0.length : Int) : Int).toNat z25) 0) else (none)) else (none)
theorem laws_toStampS.mono_l : ∀ k, (∀ y0 y1 y2, LeO (laws_toStampS.l0 k y0 y1 y2) (laws_toStampS.l0 (k + 1) y0 y1 y2))
 | 0 => fun _ _ _ r h => by simp [laws_toStampS.l0] at h
 | k + 1 => by
  have ih0 := laws_toStampS.mono_l k
  ·intro y0 y1 y2
   unfold laws_toStampS.l0
   repeat' first
   | (with_reducible exact ih0 _ _ _)
   | (with_reducible exact LeO.refl _)
   | (with_reducible exact LeO.none _)
   | (with_reducible refine LeO.ite ?_ ?_)
   | (with_reducible refine LeO.bind ?_ (fun _ => ?_))
   | exact ih0 _ _ _
   | exact LeO.none _
   | refine LeO.ite ?_ ?_
   | refine LeO.bind ?_ (fun _ => ?_)
theorem laws_toStampS.mono : ∀ a0 k, LeO (laws_toStampS.f k a0) (laws_toStampS.f (k + 1) a0) := by
 intro a0 k
 have ih0 := laws_toStampS.mono_l k
 unfold laws_toStampS.f
 repeat' first
   | (with_reducible exact ih0 _ _ _)
   | (with_reducible exact LeO.refl _)
   | (with_reducible exact LeO.none _)
   | (with_reducible refine LeO.ite ?_ ?_)
   | (with_reducible refine LeO.bind ?_ (fun _ => ?_))
   | exact ih0 _ _ _
   | exact LeO.none _
   | refine LeO.ite ?_ ?_
   | refine LeO.bind ?_ (fun _ => ?_)
set_option maxHeartbeats 8000000 in
set_option maxRecDepth 100000 in
theorem laws_toStampS.calls (k : Nat) (A0 : Option Addr) (c0 : Nat) (l0 : List (S87)) (r : List (S25)) (w : World) (hr0 : Kd.C k87 w A0 l0.length l0) (hc0 : l0.length ≤ c0) (h : laws_toStampS.f k l0 = some r) :
  Calls Try.prog 33 #[.slice A0 l0.length c0] w fun e w' => ∃ v0_ : Value, e = .returned (v0_) ∧ Kd.R k25 25 w' w.heap.size (fun _ => True) v0_ r ∧ Below w.heap.size w w' := by
 have hu87 := Try.underlying87
 have hu25 := Try.underlying25
 have HR0 := Aside0.mk hr0
 have HC0 := Aside0.mk hc0
 clear hr0 hc0
 have HB := Aside0.mk (Below.refl w.heap.size w)
 have H : (if 0 ≤ (l0.length : Int) then (if ((l0.length : Int) : Int).toNat ≤ 17592186044416 then (laws_toStampS.l0 k l0 (List.replicate ((l0.length : Int) : Int).toNat z25) 0) else (none)) else (none)) = some r := h
 clear h
 by_cases c2 : 0 ≤ (l0.length : Int)
 ·rw [if_pos c2] at H
  have c2b0 := eq_true c2
  have c2b1 : decide (0 ≤ (l0.length : Int)) = true := decide_eq_true c2
  clear c2
  by_cases c3 : ((l0.length : Int) : Int).toNat ≤ 17592186044416
  ·rw [if_pos c3] at H
   have c3b0 := eq_true c3
   have c3b1 : decide (((l0.length : Int) : Int).toNat ≤ 17592186044416) = true := decide_eq_true c3
   clear c3
   obtain ⟨y196, hy196⟩ : ∃ y_ : List (S25), y_ = (List.replicate ((l0.length : Int) : Int).toNat z25) := ⟨_, rfl⟩
   replace H : (laws_toStampS.l0 k l0 y196 0) = some r := by first | (rw [hy196]; with_reducible exact H) | (have H2_ := (Option.bind_some _ _).symm.trans H; rw [hy196]; with_reducible exact H2_) | (have H2_ := (Option.bind_some _ _).symm.trans H; with_reducible exact H2_) | with_reducible exact H | (rw [hy196]; exact H) | exact H
   have Ny196 := Aside0.mk hy196
   clear hy196
   have H' := Aside0.mk H
   clear H
   go_enter Try.func33, Try.ntmps33
   go_wp2_with (first | ((with_reducible refine gate_dst (N := 7) rfl ?_); refine Kd.R_make k25 _ 25 rfl (N := 7) rfl 51 _ _ rfl (l0.length : Int) rfl rfl Try.underlying51 (.agg #[(.int .i64 0), (.int .i64 0)]) 16 info25 rfl (by decide) (by omega) z25 (ok := fun _ => True) (okp := fun _ => True) (k25_mkM _ _ _ z25 ) (fun _ hk => hk) trivial (of_decide_eq_true (by first | (with_reducible assumption) | assumption)) (Nat.le_trans (Nat.mul_le_mul_right _ (of_decide_eq_true (by first | (with_reducible assumption) | assumption) : (l0.length : Int).toNat ≤ 17592186044416)) (by omega)) (Below.refl _ _) (Nat.le_refl _) ?_; intro v197 w4 ho5 hb hg_ hnew_; clear hg_ hnew_; (first | rw [← Ny196.out] at ho5 | (simp only [Int.reduceToNat] at ho5; rw [← Ny196.out] at ho5)); have n0_ := Aside0.mk (Kd.R_lower ho5 (below_size (by repeat (first | (with_reducible first | exact HB.out | apply pkA | apply pkN | apply pkD) | exact HB.out)))); have n1_ := Aside0.mk (below_step (by repeat (first | (with_reducible first | exact HB.out | apply pkA | apply pkN | apply pkD) | exact HB.out)) hb); clear HB; have HO198 := n0_; have HB := n1_; clear n0_ n1_; clear hb ho5))
   go_loopg [4] k (fun kq v4 w' => ∃ (x3_1 : List (S25)) (x4_1 : Int), v4 = .int .i64 x4_1 ∧ Aside0 (laws_toStampS.l0 kq l0 x3_1 x4_1 = some r) ∧ Aside0 (kq ≤ k) ∧ Aside0 (Kd.R k25 25 w' w.heap.size (fun _ => True) v197 x3_1) ∧ Aside0 (Below w.heap.size w w'))
   case atStart => exact ⟨(y196), (0), (by first | rfl | (simp; done) | (simp [pw_ne_nil, pw_eq_nil]; done) | (simp [*]; done)), H', ⟨Nat.le_refl _⟩, ⟨by (with_reducible repeat (first | apply Kd.R_alloc | apply Kd.R_drewN | apply Kd.R_drew)); exact HO198.out⟩, ⟨by repeat (first | (with_reducible first | exact HB.out | apply pkA | apply pkN | apply pkD) | exact HB.out)⟩⟩
   case round =>
    clear H'
    try clear c2; try clear c2b0; try clear c2b1; try clear p2; try clear c3; try clear c3b0; try clear c3b1
    obtain ⟨x3_1, x4_1, rfl, HA, HK1, HO_3, HB⟩ := hrel
    cases gk with
    | zero => exact absurd HA.out (by simp [laws_toStampS.l0])
    | succ k1 =>
     have H := HA.out
     clear HA
     simp only [laws_toStampS.l0] at H
     by_cases c6 : x4_1 < (l0.length : Int)
     ·rw [if_pos c6] at H
      have c6b0 : decide (x4_1 < (l0.length : Int)) = true := decide_eq_true c6
      clear c6
      by_cases c7 : 0 ≤ x4_1
      ·rw [if_pos c7] at H
       have c7b0 : decide (0 ≤ x4_1) = true := decide_eq_true c7
       clear c7
       replace H := Option.bind_eq_some_iff.mp H
       obtain ⟨⟨t200, t201⟩, A80, H⟩ := H
       try dsimp only at H
       have A8 := Aside0.mk A80
       clear A80
       by_cases c9 : x4_1 < (x3_1.length : Int)
       ·rw [if_pos c9] at H
        have c9b0 : decide (x4_1 < (x3_1.length : Int)) = true := decide_eq_true c9
        clear c9
        obtain ⟨y202, hy202⟩ : ∃ y_ : List (S25), y_ = (x3_1.set (x4_1 : Int).toNat (⟨t200, t201⟩ : S25)) := ⟨_, rfl⟩
        replace H : (laws_toStampS.l0 k1 l0 y202 (wrap64 (x4_1 + 1))) = some r := by first | (rw [hy202]; with_reducible exact H) | (have H2_ := (Option.bind_some _ _).symm.trans H; rw [hy202]; with_reducible exact H2_) | (have H2_ := (Option.bind_some _ _).symm.trans H; with_reducible exact H2_) | with_reducible exact H | (rw [hy202]; exact H) | exact H
        have Ny202 := Aside0.mk hy202
        clear hy202
        have H' := Aside0.mk H
        clear H
        have p199 : 0 ≤ (x4_1 : Int) := of_decide_eq_true (by first | (with_reducible assumption) | assumption)
        have q199 : x4_1 < (l0.length : Int) := of_decide_eq_true (by first | (with_reducible assumption) | assumption)
        obtain ⟨ad199, e199, hx199_0, hx199_1⟩ := at_T87 HR0.out x4_1 p199 q199
        cases e199
        replace hx199_0 := (HB.out.cell (World.block_lt_of_cell? w _ hx199_0)).trans hx199_0
        replace hx199_1 := (HB.out.cell (World.block_lt_of_cell? w _ hx199_1)).trans hx199_1
        replace p199 := eq_true p199
        replace q199 := eq_true q199
        go_wp2_with (first | ((with_reducible refine gate_callee (f := 70) rfl ?_); refine goesL_ (some 20) rfl rfl Try.func70 (by kernel_rfl) rfl #[.agg #[.int .i64 ((rd_T87 l0 x4_1).f0), .int .i64 ((rd_T87 l0 x4_1).f1)]] rfl (by (try simp only [List.map_toArray, List.map_cons, List.map_nil]); first | done | rfl | (simp only [List.length_drop, List.length_take]; rfl)) ?_; (with_reducible refine (laws_toStamp.calls ((rd_T87 l0 x4_1).f0) ((rd_T87 l0 x4_1).f1) t200 t201 _ A8.out).mono ?_); rintro e w11 ⟨rfl, hb⟩; refine ⟨_, rfl, ?_⟩; have n0_ := Aside0.mk (Kd.R_below (by (with_reducible repeat (first | apply Kd.R_alloc | apply Kd.R_drewN | apply Kd.R_drew)); exact HO_3.out) hb); have n1_ := Aside0.mk (below_step (by repeat (first | (with_reducible first | exact HB.out | apply pkA | apply pkN | apply pkD) | exact HB.out)) hb); clear HO_3; clear HB; have HO_3 := n0_; have HB := n1_; clear n0_ n1_; (try clear hb); (try clear hb2); (try clear hk); (try clear hi); have p10 : 0 ≤ (x4_1 : Int) := of_decide_eq_true (by first | (with_reducible assumption) | assumption); have q10 : (x4_1 : Int) < ((x3_1.length : Int) : Int) := of_decide_eq_true (by first | (with_reducible assumption) | assumption); obtain ⟨go10, co10, eo10, gb10, gl10, cl10, HG10⟩ := Kd.R_form HO_3.out (by omega); (first | cases eo10 | (injection eo10 with ea_ en_ ec_; (first | subst ea_ | (injection ea_ with ea_; subst ea_)); subst ec_; clear en_)); have GB10 := Aside0.mk gb10; have GG10 := Aside0.mk HG10; clear gb10 gl10 HG10; obtain ⟨ce10, hcl10, hM10, hcc10, hfr10⟩ := Kd.R_elem HO_3.out z25 (x4_1 : Int) p10 q10; obtain rfl := k25_openM hM10; have hx10_0 : w11.cell? ⟨go10, (x4_1 : Int).toNat * 2, none⟩ = some (.int .i64 ((rd_T25 x3_1 x4_1).f0)) := hcc10 0 _ rfl; have hx10_1 : w11.cell? ⟨go10, (x4_1 : Int).toNat * 2 + 1, none⟩ = some (.int .i64 ((rd_T25 x3_1 x4_1).f1)) := hcc10 1 _ rfl; have hf10_0 : w11.frozen? ⟨go10, (x4_1 : Int).toNat * 2, none⟩ = false := hfr10 0; have hf10_1 : w11.frozen? ⟨go10, (x4_1 : Int).toNat * 2 + 1, none⟩ = false := hfr10 1; clear hcl10 hcc10 hfr10 hM10; replace p10 := eq_true p10; replace q10 := eq_true q10; have HX12 := Aside0.mk (show Kd.R k25 25 w11 w.heap.size (fun _ => True) (.slice (some ⟨go10, 0, none⟩) x3_1.length co10) x3_1 from (by (with_reducible repeat (first | apply Kd.R_alloc | apply Kd.R_drewN | apply Kd.R_drew)); exact HO_3.out)); obtain ⟨ce12, hcl12, hM12, hcc12, hfr12⟩ := Kd.R_elem HX12.out z25 (x4_1 : Int) (of_decide_eq_true (by first | (with_reducible assumption) | assumption)) (by have h_ : (x4_1 : Int) < ((x3_1.length : Int) : Int) := of_decide_eq_true (by first | (with_reducible assumption) | assumption); first | exact h_ | (have e_ := (Kd.R_reads' HO_3.out).1; omega) | simpa using h_); obtain rfl := k25_openM hM12; have HP12 := Kd.R_seg HX12.out (x4_1 : Int) (of_decide_eq_true (by first | (with_reducible assumption) | assumption)) (by have h_ : (x4_1 : Int) < ((x3_1.length : Int) : Int) := of_decide_eq_true (by first | (with_reducible assumption) | assumption); first | exact h_ | (have e_ := (Kd.R_reads' HO_3.out).1; omega) | simpa using h_) (seg := [.int .i64 t200, .int .i64 t201]) (j := 0) hcl12 hcc12 (show 2 ≤ 2 from by decide) (x' := (⟨t200, t201⟩ : S25)) (k25_mkM _ _ _ (⟨t200, t201⟩ : S25) ) (fun _ hk => hk); have hx12_0 := hcc12 0 _ rfl; (try simp only [show (k25).sz = 2 from rfl, Nat.mul_one, Nat.add_zero] at hx12_0); have hf12_0 := hfr12 0; (try simp only [show (k25).sz = 2 from rfl, Nat.mul_one, Nat.add_zero] at hf12_0); have hx12_1 := hcc12 1 _ rfl; (try simp only [show (k25).sz = 2 from rfl, Nat.mul_one, Nat.add_zero] at hx12_1); have hf12_1 := hfr12 1; (try simp only [show (k25).sz = 2 from rfl, Nat.mul_one, Nat.add_zero] at hf12_1); clear hcl12 hcc12 hfr12 hM12) | ((with_reducible refine gate_store (t := 25) (p := 21) rfl ?_); refine store_event (t := 25) (p := 21) (v := ?vo_w13) (w1 := ((w11.setCell ⟨go10, (x4_1 : Int).toNat * 2, none⟩ (.int .i64 t200)).setCell ⟨go10, (x4_1 : Int).toNat * 2 + 1, none⟩ (.int .i64 t201))) ?hg ?ho ?hn ?hr ?_; (case ho => rfl); (case hg => rfl); (case hn => rfl); (case hr => first | (go_simp; done) | (go_simp; rfl)); intro w13 hw; have hg : w11.grownBy w13 (some go10) := (by rw [hw]; exact HP12.2); have hp_ : Kd.R k25 25 w13 w.heap.size (fun _ => True) (.slice (some ⟨go10, 0, none⟩) x3_1.length co10) y202 := (by rw [hw, Ny202.out]; exact HP12.1); clear HP12; have n0_ := Aside0.mk (hp_); have n1_ := Aside0.mk ((by rw [hw]; exact below_set (below_set (HB.out) GB10.out) GB10.out : Below w.heap.size w w13)); clear HO_3; clear HB; have HO_3 := n0_; have HB := n1_; clear n0_ n1_; clear hg hw hp_))
        go_roundg k1
        case measure => have := HK1.out; omega
        case rel => exact ⟨(y202), (wrap64 (x4_1 + 1)), (by first | rfl | (simp; done) | (simp [pw_ne_nil, pw_eq_nil]; done) | (simp [*]; done)), H', ⟨by have := HK1.out; omega⟩, ⟨by (with_reducible repeat (first | apply Kd.R_alloc | apply Kd.R_drewN | apply Kd.R_drew)); exact HO_3.out⟩, ⟨by repeat (first | (with_reducible first | exact HB.out | apply pkA | apply pkN | apply pkD) | exact HB.out)⟩⟩
       ·rw [if_neg c9] at H
        exact absurd H (by simp)
      ·rw [if_neg c7] at H
       exact absurd H (by simp)
     ·rw [if_neg c6] at H
      have c6b0 : decide (x4_1 < (l0.length : Int)) = false := decide_eq_false c6
      clear c6
      obtain rfl := Option.some.inj H
      go_wp2
      go_ret
      exact ⟨_, by first | rfl | (simp [errW_none, errW_some] <;> rfl) | (simp [*, errW_none, errW_some] <;> rfl), by (with_reducible repeat (first | apply Kd.R_alloc | apply Kd.R_drewN | apply Kd.R_drew)); exact HO_3.out, by repeat (first | (with_reducible first | exact HB.out | apply pkA | apply pkN | apply pkD) | exact HB.out)⟩
  ·rw [if_neg c3] at H
   exact absurd H (by simp)
 ·rw [if_neg c2] at H
  exact absurd H (by simp)

/-! ### impl_ydigit: function 102 -/
def impl_ydigit.f (a0 : Int) : Option (Bool) := if a0 ≥ 48 then (some (decide (a0 ≤ 57))) else (some false)
set_option maxHeartbeats 8000000 in
set_option maxRecDepth 100000 in
theorem impl_ydigit.calls (a0 : Int) (r : Bool) (w : World) (h : impl_ydigit.f a0 = some r) :
  Calls Try.prog 102 #[.int .u8 a0] w fun e w' => e = .returned (.bool r) ∧ Drawn0 w w' := by
 have H : (if a0 ≥ 48 then (some (decide (a0 ≤ 57))) else (some false)) = some r := h
 clear h
 by_cases c2 : a0 ≥ 48
 ·rw [if_pos c2] at H
  have c2b0 : decide (48 ≤ a0) = true := decide_eq_true c2
  clear c2
  obtain rfl := Option.some.inj H
  go_enter Try.func102, Try.ntmps102
  go_wp2
  go_ret
  exact ⟨by first | rfl | (simp; done) | (simp [*]; done), by repeat (first | exact Drawn0.refl _ | apply Drawn0.step)⟩
 ·rw [if_neg c2] at H
  have c2b0 : decide (48 ≤ a0) = false := decide_eq_false c2
  clear c2
  obtain rfl := Option.some.inj H
  go_enter Try.func102, Try.ntmps102
  go_wp2
  go_ret
  exact ⟨by first | rfl | (simp; done) | (simp [*]; done), by repeat (first | exact Drawn0.refl _ | apply Drawn0.step)⟩

/-! ### impl_yletter: function 135 -/
def impl_yletter.f (a0 : Int) : Option (Bool) := if a0 ≥ 97 then (if a0 ≤ 122 then (some true) else (if a0 ≥ 65 then (some (decide (a0 ≤ 90))) else (some false))) else (if a0 ≥ 65 then (some (decide (a0 ≤ 90))) else (some false))
set_option maxHeartbeats 8000000 in
set_option maxRecDepth 100000 in
theorem impl_yletter.calls (a0 : Int) (r : Bool) (w : World) (h : impl_yletter.f a0 = some r) :
  Calls Try.prog 135 #[.int .u8 a0] w fun e w' => e = .returned (.bool r) ∧ Drawn0 w w' := by
 have H : (if a0 ≥ 97 then (if a0 ≤ 122 then (some true) else (if a0 ≥ 65 then (some (decide (a0 ≤ 90))) else (some false))) else (if a0 ≥ 65 then (some (decide (a0 ≤ 90))) else (some false))) = some r := h
 clear h
 by_cases c2 : a0 ≥ 97
 ·rw [if_pos c2] at H
  have c2b0 : decide (97 ≤ a0) = true := decide_eq_true c2
  clear c2
  by_cases c3 : a0 ≤ 122
  ·rw [if_pos c3] at H
   have c3b0 : decide (a0 ≤ 122) = true := decide_eq_true c3
   clear c3
   obtain rfl := Option.some.inj H
   go_enter Try.func135, Try.ntmps135
   go_wp2
   go_ret
   exact ⟨by first | rfl | (simp; done) | (simp [*]; done), by repeat (first | exact Drawn0.refl _ | apply Drawn0.step)⟩
  ·rw [if_neg c3] at H
   have c3b0 : decide (a0 ≤ 122) = false := decide_eq_false c3
   clear c3
   by_cases c4 : a0 ≥ 65
   ·rw [if_pos c4] at H
    have c4b0 : decide (65 ≤ a0) = true := decide_eq_true c4
    clear c4
    obtain rfl := Option.some.inj H
    go_enter Try.func135, Try.ntmps135
    go_wp2
    go_ret
    exact ⟨by first | rfl | (simp; done) | (simp [*]; done), by repeat (first | exact Drawn0.refl _ | apply Drawn0.step)⟩
   ·rw [if_neg c4] at H
    have c4b0 : decide (65 ≤ a0) = false := decide_eq_false c4
    clear c4
    obtain rfl := Option.some.inj H
    go_enter Try.func135, Try.ntmps135
    go_wp2
    go_ret
    exact ⟨by first | rfl | (simp; done) | (simp [*]; done), by repeat (first | exact Drawn0.refl _ | apply Drawn0.step)⟩
 ·rw [if_neg c2] at H
  have c2b0 : decide (97 ≤ a0) = false := decide_eq_false c2
  clear c2
  by_cases c5 : a0 ≥ 65
  ·rw [if_pos c5] at H
   have c5b0 : decide (65 ≤ a0) = true := decide_eq_true c5
   clear c5
   obtain rfl := Option.some.inj H
   go_enter Try.func135, Try.ntmps135
   go_wp2
   go_ret
   exact ⟨by first | rfl | (simp; done) | (simp [*]; done), by repeat (first | exact Drawn0.refl _ | apply Drawn0.step)⟩
  ·rw [if_neg c5] at H
   have c5b0 : decide (65 ≤ a0) = false := decide_eq_false c5
   clear c5
   obtain rfl := Option.some.inj H
   go_enter Try.func135, Try.ntmps135
   go_wp2
   go_ret
   exact ⟨by first | rfl | (simp; done) | (simp [*]; done), by repeat (first | exact Drawn0.refl _ | apply Drawn0.step)⟩

/-! ### impl_ywordByte: function 103 -/
def impl_ywordByte.f (a0 : Int) : Option (Bool) := (impl_yletter.f a0).bind fun t203 => (if t203 = true then (some true) else ((impl_ydigit.f a0).bind fun t204 => (if t204 = true then (some true) else (some (a0 == 95)))))
set_option maxHeartbeats 8000000 in
set_option maxRecDepth 100000 in
theorem impl_ywordByte.calls (a0 : Int) (r : Bool) (w : World) (h : impl_ywordByte.f a0 = some r) :
  Calls Try.prog 103 #[.int .u8 a0] w fun e w' => e = .returned (.bool r) ∧ Drawn0 w w' := by
 have H : ((impl_yletter.f a0).bind fun t203 => (if t203 = true then (some true) else ((impl_ydigit.f a0).bind fun t204 => (if t204 = true then (some true) else (some (a0 == 95)))))) = some r := h
 clear h
 replace H := Option.bind_eq_some_iff.mp H
 obtain ⟨t203, A20, H⟩ := H
 try dsimp only at H
 have A2 := Aside0.mk A20
 clear A20
 by_cases c3 : t203 = true
 ·subst c3
  rw [if_pos rfl] at H
  obtain rfl := Option.some.inj H
  go_enter Try.func103, Try.ntmps103
  go_wp2_with (first | ((with_reducible refine gate_callee (f := 135) rfl ?_); refine goesL_ (some 4) rfl rfl Try.func135 (by kernel_rfl) rfl #[.int .u8 a0] rfl (by (try simp only [List.map_toArray, List.map_cons, List.map_nil]); first | done | rfl | (simp only [List.length_drop, List.length_take]; rfl)) ?_; (with_reducible refine (impl_yletter.calls a0 true _ A2.out).mono ?_); rintro e w' ⟨rfl, ⟨nd, rfl⟩⟩; refine ⟨_, rfl, ?_⟩))
  go_ret
  exact ⟨by first | rfl | (simp; done) | (simp [*]; done), by repeat (first | exact Drawn0.refl _ | apply Drawn0.step)⟩
 ·replace c3 := Bool.eq_false_iff.mpr c3
  subst c3
  rw [if_neg (show ¬ (false = true) by decide)] at H
  replace H := Option.bind_eq_some_iff.mp H
  obtain ⟨t204, A40, H⟩ := H
  try dsimp only at H
  have A4 := Aside0.mk A40
  clear A40
  by_cases c5 : t204 = true
  ·subst c5
   rw [if_pos rfl] at H
   obtain rfl := Option.some.inj H
   go_enter Try.func103, Try.ntmps103
   go_wp2_with (first | ((with_reducible refine gate_callee (f := 135) rfl ?_); refine goesL_ (some 4) rfl rfl Try.func135 (by kernel_rfl) rfl #[.int .u8 a0] rfl (by (try simp only [List.map_toArray, List.map_cons, List.map_nil]); first | done | rfl | (simp only [List.length_drop, List.length_take]; rfl)) ?_; (with_reducible refine (impl_yletter.calls a0 false _ A2.out).mono ?_); rintro e w' ⟨rfl, ⟨nd, rfl⟩⟩; refine ⟨_, rfl, ?_⟩) | (go_at_call 102; (with_reducible refine (impl_ydigit.calls a0 true _ A4.out).mono ?_); rintro e w' ⟨rfl, ⟨nd, rfl⟩⟩))
   go_ret
   exact ⟨by first | rfl | (simp; done) | (simp [*]; done), by repeat (first | exact Drawn0.refl _ | apply Drawn0.step)⟩
  ·replace c5 := Bool.eq_false_iff.mpr c5
   subst c5
   rw [if_neg (show ¬ (false = true) by decide)] at H
   obtain rfl := Option.some.inj H
   go_enter Try.func103, Try.ntmps103
   go_wp2_with (first | ((with_reducible refine gate_callee (f := 135) rfl ?_); refine goesL_ (some 4) rfl rfl Try.func135 (by kernel_rfl) rfl #[.int .u8 a0] rfl (by (try simp only [List.map_toArray, List.map_cons, List.map_nil]); first | done | rfl | (simp only [List.length_drop, List.length_take]; rfl)) ?_; (with_reducible refine (impl_yletter.calls a0 false _ A2.out).mono ?_); rintro e w' ⟨rfl, ⟨nd, rfl⟩⟩; refine ⟨_, rfl, ?_⟩) | (go_at_call 102; (with_reducible refine (impl_ydigit.calls a0 false _ A4.out).mono ?_); rintro e w' ⟨rfl, ⟨nd, rfl⟩⟩))
   go_ret
   exact ⟨by first | rfl | (simp; done) | (simp [*]; done), by repeat (first | exact Drawn0.refl _ | apply Drawn0.step)⟩

end Go.Proofs.Ytcgiegkcmofhhab.PFnExactMissing
