-- Written for this claim by a program of this session, which goes by the kit's print and takes contracts proved by hand.
import Derived.Test.YtehffdeiclepmaaPFnExactJoinx0
namespace Go.Proofs.Ytehffdeiclepmaa.PFnExactJoin
open Go.RowKit Go.Proofs.YtehffdeiclepmaaW.PrintWords Go.Proofs.YtehffdeiclepmaaW.PrintLast Go.Proofs.YtehffdeiclepmaaW.PrintMore
attribute [local go_sem] max2_int min2_int max_two min_two max_three min_three max_four min_four   -- for this text's walks alone
set_option linter.unusedVariables false
set_option linter.unusedSimpArgs false

/-! ### laws_toShare: function 10 -/
def laws_toShare.f (a0_0 : Int) (a0_1 : Int) : Option (Int × Int) := some (a0_0, a0_1)
set_option maxHeartbeats 8000000 in
set_option maxRecDepth 100000 in
theorem laws_toShare.calls (a0_0 : Int) (a0_1 : Int) (r1 : Int) (r2 : Int) (w : World) (h : laws_toShare.f a0_0 a0_1 = some (r1, r2)) :
    Calls Try.prog 10 #[.agg #[.int .i64 a0_0, .int .i64 a0_1]] w fun e w' => e = .returned (.agg #[.int .i64 r1, .int .i64 r2]) ∧ Below w.heap.size w w' := by
  have hu34 := Try.underlying34
  have hu31 := Try.underlying31
  have HB := Aside0.mk (Below.refl w.heap.size w)
  have H : (some (a0_0, a0_1)) = some (r1, r2) := h
  clear h
  simp only [Option.some.injEq, Prod.mk.injEq] at H
  obtain ⟨rfl, rfl⟩ := H
  go_enter Try.func10, Try.ntmps10
  go_wp2_with (first | ((with_reducible refine gate_dst (N := 1) rfl ?_); refine box_event ?hg (N := 1) ?hd (cs := #[.int .i64 a0_0, .int .i64 a0_1]) (t := 34) ?hr ?_; (case hd => rfl); (case hg => rfl); (case hr => first | (go_simp; done) | (go_simp; rfl)); intro gb114 hg w2 hbox hb; have n0_ := Aside0.mk (below_step (by repeat (first | (with_reducible first | exact HB.out | apply below_alloc | apply pw_below_drewN | apply below_drew1) | exact HB.out)) hb); have n1_ := Aside0.mk (hbox); have n2_ := Aside0.mk ((by rw [hg]; exact (below_size (by repeat (first | (with_reducible first | exact HB.out | apply below_alloc | apply pw_below_drewN | apply below_drew1) | exact HB.out))) : w.heap.size ≤ gb114)); have n3_ := Aside0.mk ((by rw [hg]; exact (below_size (by repeat (first | (with_reducible first | exact HB.out | apply below_alloc | apply pw_below_drewN | apply below_drew1) | exact HB.out))) : w.heap.size ≤ gb114)); clear HB; have HB := n0_; have BK114 := n1_; have GW114 := n2_; have GE114 := n3_; clear n0_ n1_ n2_ n3_; clear hb hbox hg) | ((with_reducible refine gate_dst (N := 2) rfl ?_); refine box_event ?hg (N := 2) ?hd (cs := #[.int .i64 0, .int .i64 0]) (t := 31) ?hr ?_; (case hd => rfl); (case hg => rfl); (case hr => first | (go_simp; done) | (go_simp; rfl)); intro gb115 hg w3 hbox hb; have n0_ := Aside0.mk (blk_below (g := gb114) (o := .cells #[.int .i64 a0_0, .int .i64 a0_1] 34 (0, 0)) (by (with_reducible repeat (first | refine blk_drewN ?_ _ | refine blk_drew ?_ | refine blk_alloc ?_ _)); exact BK114.out) hb); have n1_ := Aside0.mk (below_step (by repeat (first | (with_reducible first | exact HB.out | apply below_alloc | apply pw_below_drewN | apply below_drew1 | refine below_set ?_ GE114.out) | exact HB.out)) hb); have n2_ := Aside0.mk (hbox); have n3_ := Aside0.mk ((by rw [hg]; exact (below_size (by repeat (first | (with_reducible first | exact HB.out | apply below_alloc | apply pw_below_drewN | apply below_drew1 | refine below_set ?_ GE114.out) | exact HB.out))) : w.heap.size ≤ gb115)); have n4_ := Aside0.mk ((by rw [hg]; exact (below_size (by repeat (first | (with_reducible first | exact HB.out | apply below_alloc | apply pw_below_drewN | apply below_drew1 | refine below_set ?_ GE114.out) | exact HB.out))) : w.heap.size ≤ gb115)); have n5_ := Aside0.mk ((by rw [hg]; exact Nat.ne_of_lt (blk_lt (g := gb114) (o := .cells #[.int .i64 a0_0, .int .i64 a0_1] 34 (0, 0)) (by (with_reducible repeat (first | refine blk_drewN ?_ _ | refine blk_drew ?_ | refine blk_alloc ?_ _)); exact BK114.out)) : gb114 ≠ gb115)); have n6_ := Aside0.mk ((by rw [hg]; exact Nat.ne_of_gt (blk_lt (g := gb114) (o := .cells #[.int .i64 a0_0, .int .i64 a0_1] 34 (0, 0)) (by (with_reducible repeat (first | refine blk_drewN ?_ _ | refine blk_drew ?_ | refine blk_alloc ?_ _)); exact BK114.out)) : gb115 ≠ gb114)); clear BK114; clear HB; have BK114 := n0_; have HB := n1_; have BK115 := n2_; have GW115 := n3_; have GE115 := n4_; have NB114_115 := n5_; have NB115_114 := n6_; clear n0_ n1_ n2_ n3_ n4_ n5_ n6_; clear hb hbox hg) | ((with_reducible refine gate_dst (N := 3) rfl ?_); refine box_event ?hg (N := 3) ?hd (cs := #[.int .i64 0, .int .i64 0]) (t := 31) ?hr ?_; (case hd => rfl); (case hg => rfl); (case hr => first | (go_simp; done) | (go_simp; rfl)); intro gb116 hg w4 hbox hb; have n0_ := Aside0.mk (blk_below (g := gb114) (o := .cells #[.int .i64 a0_0, .int .i64 a0_1] 34 (0, 0)) (by (with_reducible repeat (first | refine blk_drewN ?_ _ | refine blk_drew ?_ | refine blk_alloc ?_ _)); exact BK114.out) hb); have n1_ := Aside0.mk (blk_below (g := gb115) (o := .cells #[.int .i64 0, .int .i64 0] 31 (0, 0)) (by (with_reducible repeat (first | refine blk_drewN ?_ _ | refine blk_drew ?_ | refine blk_alloc ?_ _)); exact BK115.out) hb); have n2_ := Aside0.mk (below_step (by repeat (first | (with_reducible first | exact HB.out | apply below_alloc | apply pw_below_drewN | apply below_drew1 | refine below_set ?_ GE114.out | refine below_set ?_ GE115.out) | exact HB.out)) hb); have n3_ := Aside0.mk (hbox); have n4_ := Aside0.mk ((by rw [hg]; exact (below_size (by repeat (first | (with_reducible first | exact HB.out | apply below_alloc | apply pw_below_drewN | apply below_drew1 | refine below_set ?_ GE114.out | refine below_set ?_ GE115.out) | exact HB.out))) : w.heap.size ≤ gb116)); have n5_ := Aside0.mk ((by rw [hg]; exact (below_size (by repeat (first | (with_reducible first | exact HB.out | apply below_alloc | apply pw_below_drewN | apply below_drew1 | refine below_set ?_ GE114.out | refine below_set ?_ GE115.out) | exact HB.out))) : w.heap.size ≤ gb116)); have n6_ := Aside0.mk ((by rw [hg]; exact Nat.ne_of_lt (blk_lt (g := gb114) (o := .cells #[.int .i64 a0_0, .int .i64 a0_1] 34 (0, 0)) (by (with_reducible repeat (first | refine blk_drewN ?_ _ | refine blk_drew ?_ | refine blk_alloc ?_ _)); exact BK114.out)) : gb114 ≠ gb116)); have n7_ := Aside0.mk ((by rw [hg]; exact Nat.ne_of_gt (blk_lt (g := gb114) (o := .cells #[.int .i64 a0_0, .int .i64 a0_1] 34 (0, 0)) (by (with_reducible repeat (first | refine blk_drewN ?_ _ | refine blk_drew ?_ | refine blk_alloc ?_ _)); exact BK114.out)) : gb116 ≠ gb114)); have n8_ := Aside0.mk ((by rw [hg]; exact Nat.ne_of_lt (blk_lt (g := gb115) (o := .cells #[.int .i64 0, .int .i64 0] 31 (0, 0)) (by (with_reducible repeat (first | refine blk_drewN ?_ _ | refine blk_drew ?_ | refine blk_alloc ?_ _)); exact BK115.out)) : gb115 ≠ gb116)); have n9_ := Aside0.mk ((by rw [hg]; exact Nat.ne_of_gt (blk_lt (g := gb115) (o := .cells #[.int .i64 0, .int .i64 0] 31 (0, 0)) (by (with_reducible repeat (first | refine blk_drewN ?_ _ | refine blk_drew ?_ | refine blk_alloc ?_ _)); exact BK115.out)) : gb116 ≠ gb115)); clear BK114; clear BK115; clear HB; have BK114 := n0_; have BK115 := n1_; have HB := n2_; have BK116 := n3_; have GW116 := n4_; have GE116 := n5_; have NB114_116 := n6_; have NB116_114 := n7_; have NB115_116 := n8_; have NB116_115 := n9_; clear n0_ n1_ n2_ n3_ n4_ n5_ n6_ n7_ n8_ n9_; clear hb hbox hg; have hnb5 := NB114_115.out; have hnc5 := NB115_114.out; have hnb6 := NB114_116.out; have hnc6 := NB116_114.out; have hcz7_0 : w4.cell? ⟨gb114, 0, none⟩ = some (.int .i64 a0_0) := (blk_cell BK114.out 0).trans rfl; have hcz7_1 : w4.cell? ⟨gb114, 1, none⟩ = some (.int .i64 a0_1) := (blk_cell BK114.out 1).trans rfl; have hfz7_0 := blk_frozen BK114.out 0; have hfz7_1 := blk_frozen BK114.out 1; have hnb8 := NB116_115.out; have hnc8 := NB115_116.out; have hcz9_0 : w4.cell? ⟨gb116, 0, none⟩ = some (.int .i64 0) := (blk_cell BK116.out 0).trans rfl; have hcz9_1 : w4.cell? ⟨gb116, 1, none⟩ = some (.int .i64 0) := (blk_cell BK116.out 1).trans rfl; have hfz9_0 := blk_frozen BK116.out 0; have hfz9_1 := blk_frozen BK116.out 1; have hcz10_0 : w4.cell? ⟨gb115, 0, none⟩ = some (.int .i64 0) := (blk_cell BK115.out 0).trans rfl; have hcz10_1 : w4.cell? ⟨gb115, 1, none⟩ = some (.int .i64 0) := (blk_cell BK115.out 1).trans rfl; have hfz10_0 := blk_frozen BK115.out 0; have hfz10_1 := blk_frozen BK115.out 1))
  refine bodyPost_ret (results_cell_row rfl _ _ gb115 31 #[.int .i64 a0_0, .int .i64 a0_1] (0, 0) _ rfl (by (with_reducible repeat (first | refine blk_drewN ?_ _ | refine blk_drew ?_ | refine blk_alloc ?_ _)); refine blk_put (cs := #[.int .i64 a0_0, .int .i64 0]) ?_ 1 _ rfl; (with_reducible repeat (first | refine blk_drewN ?_ _ | refine blk_drew ?_ | refine blk_alloc ?_ _)); refine blk_put (cs := #[.int .i64 0, .int .i64 0]) ?_ 0 _ rfl; (with_reducible repeat (first | refine blk_drewN ?_ _ | refine blk_drew ?_ | refine blk_alloc ?_ _)); refine blk_far ?_ NB115_116.out _; (with_reducible repeat (first | refine blk_drewN ?_ _ | refine blk_drew ?_ | refine blk_alloc ?_ _)); refine blk_far ?_ NB115_116.out _; (with_reducible repeat (first | refine blk_drewN ?_ _ | refine blk_drew ?_ | refine blk_alloc ?_ _)); exact BK115.out) Try.underlying31 rfl (by kernel_rfl)) rfl ?_
  exact ⟨by first | rfl | (simp [errW_none, errW_some] <;> rfl) | (simp [*, errW_none, errW_some] <;> rfl), by repeat (first | (with_reducible first | exact HB.out | apply below_alloc | apply pw_below_drewN | apply below_drew1 | refine below_set ?_ GE114.out | refine below_set ?_ GE115.out | refine below_set ?_ GE116.out) | exact HB.out)⟩

/-! ### laws_toShareS: function 6 -/
def laws_toShareS.l0 : Nat → List (S34) → List (S31) → Int → Option ((List (S31)))
  | 0, _, _, _ => none
  | k + 1, x0, x3, x4 => if x4 < (x0.length : Int) then (if 0 ≤ x4 then ((laws_toShare.f ((rd_T34 x0 x4).f0) ((rd_T34 x0 x4).f1)).bind fun bt121 => (if x4 < (x3.length : Int) then (laws_toShareS.l0 k x0 (x3.set (x4 : Int).toNat (⟨bt121.1, bt121.2⟩ : S31)) (wrap64 (x4 + 1))) else (none))) else (none)) else (some x3)
def laws_toShareS.f (k : Nat) (l0 : List (S34)) : Option ((List (S31))) := if 0 ≤ (l0.length : Int) then (if ((l0.length : Int) : Int).toNat ≤ 17592186044416 then (laws_toShareS.l0 k l0 (List.replicate ((l0.length : Int) : Int).toNat z31) 0) else (none)) else (none)
theorem laws_toShareS.mono_l : ∀ k, (∀ y0 y1 y2, LeO (laws_toShareS.l0 k y0 y1 y2) (laws_toShareS.l0 (k + 1) y0 y1 y2))
  | 0 => fun _ _ _ r h => by simp [laws_toShareS.l0] at h
  | k + 1 => by
    have ih0 := laws_toShareS.mono_l k
    · intro y0 y1 y2
      unfold laws_toShareS.l0
      repeat' first
      | (with_reducible exact ih0 _ _ _)
      | (with_reducible exact LeO.refl _)
      | (with_reducible exact LeO.none _)
      | (with_reducible refine LeO.ite ?_ ?_)
      | (with_reducible refine LeO.bind ?_ (fun _ => ?_))
      | exact ih0 _ _ _
      | exact LeO.none _
      | refine LeO.ite ?_ ?_
      | refine LeO.bind ?_ (fun _ => ?_)
theorem laws_toShareS.mono : ∀ a0 k, LeO (laws_toShareS.f k a0) (laws_toShareS.f (k + 1) a0) := by
  intro a0 k
  have ih0 := laws_toShareS.mono_l k
  unfold laws_toShareS.f
  repeat' first
      | (with_reducible exact ih0 _ _ _)
      | (with_reducible exact LeO.refl _)
      | (with_reducible exact LeO.none _)
      | (with_reducible refine LeO.ite ?_ ?_)
      | (with_reducible refine LeO.bind ?_ (fun _ => ?_))
      | exact ih0 _ _ _
      | exact LeO.none _
      | refine LeO.ite ?_ ?_
      | refine LeO.bind ?_ (fun _ => ?_)
set_option maxHeartbeats 8000000 in
set_option maxRecDepth 100000 in
theorem laws_toShareS.calls (k : Nat) (A0 : Option Addr) (c0 : Nat) (l0 : List (S34)) (r : List (S31)) (w : World) (hr0 : Kd.C k34 w A0 l0.length l0) (hc0 : l0.length ≤ c0) (h : laws_toShareS.f k l0 = some r) :
    Calls Try.prog 6 #[.slice A0 l0.length c0] w fun e w' => ∃ v0_ : Value, e = .returned (v0_) ∧ Kd.R k31 31 w' w.heap.size (fun _ => True) v0_ r ∧ Below w.heap.size w w' := by
  have hu34 := Try.underlying34
  have hu31 := Try.underlying31
  have HR0 := Aside0.mk hr0
  have HC0 := Aside0.mk hc0
  clear hr0 hc0
  have HB := Aside0.mk (Below.refl w.heap.size w)
  have H : (if 0 ≤ (l0.length : Int) then (if ((l0.length : Int) : Int).toNat ≤ 17592186044416 then (laws_toShareS.l0 k l0 (List.replicate ((l0.length : Int) : Int).toNat z31) 0) else (none)) else (none)) = some r := h
  clear h
  by_cases c2 : 0 ≤ (l0.length : Int)
  · rw [if_pos c2] at H
    have c2b0 := eq_true c2
    have c2b1 : decide (0 ≤ (l0.length : Int)) = true := decide_eq_true c2
    clear c2
    by_cases c3 : ((l0.length : Int) : Int).toNat ≤ 17592186044416
    · rw [if_pos c3] at H
      have c3b0 := eq_true c3
      have c3b1 : decide (((l0.length : Int) : Int).toNat ≤ 17592186044416) = true := decide_eq_true c3
      clear c3
      obtain ⟨y117, hy117⟩ : ∃ y_ : List (S31), y_ = (List.replicate ((l0.length : Int) : Int).toNat z31) := ⟨_, rfl⟩
      replace H : (laws_toShareS.l0 k l0 y117 0) = some r := by first | (rw [hy117]; with_reducible exact H) | (have H2_ := (Option.bind_some _ _).symm.trans H; rw [hy117]; with_reducible exact H2_) | (have H2_ := (Option.bind_some _ _).symm.trans H; with_reducible exact H2_) | with_reducible exact H | (rw [hy117]; exact H) | exact H
      have Ny117 := Aside0.mk hy117
      clear hy117
      have H' := Aside0.mk H
      clear H
      go_enter Try.func6, Try.ntmps6
      go_wp2_with (first | ((with_reducible refine gate_dst (N := 7) rfl ?_); refine Kd.R_make k31 _ 31 rfl (N := 7) rfl 26 _ _ rfl (l0.length : Int) rfl rfl Try.underlying26 (.agg #[(.int .i64 0), (.int .i64 0)]) 16 info31 rfl (by decide) (by omega) z31 (ok := fun _ => True) (okp := fun _ => True) (k31_mkM _ _ _ z31 ) (fun _ hk => hk) trivial (of_decide_eq_true (by first | (with_reducible assumption) | assumption)) (Nat.le_trans (Nat.mul_le_mul_right _ (of_decide_eq_true (by first | (with_reducible assumption) | assumption) : (l0.length : Int).toNat ≤ 17592186044416)) (by omega)) (Below.refl _ _) (Nat.le_refl _) ?_; intro v118 w4 ho5 hb hg_ hnew_; clear hg_ hnew_; (first | rw [← Ny117.out] at ho5 | (simp only [Int.reduceToNat] at ho5; rw [← Ny117.out] at ho5)); have n0_ := Aside0.mk (Kd.R_lower ho5 (below_size (by repeat (first | (with_reducible first | exact HB.out | apply below_alloc | apply pw_below_drewN | apply below_drew1) | exact HB.out)))); have n1_ := Aside0.mk (below_step (by repeat (first | (with_reducible first | exact HB.out | apply below_alloc | apply pw_below_drewN | apply below_drew1) | exact HB.out)) hb); clear HB; have HO119 := n0_; have HB := n1_; clear n0_ n1_; clear hb ho5))
      go_loopg [4] k (fun kq v4 w' => ∃ (x3_1 : List (S31)) (x4_1 : Int), v4 = .int .i64 x4_1 ∧ Aside0 (laws_toShareS.l0 kq l0 x3_1 x4_1 = some r) ∧ Aside0 (kq ≤ k) ∧ Aside0 (Kd.R k31 31 w' w.heap.size (fun _ => True) v118 x3_1) ∧ Aside0 (Below w.heap.size w w'))
      case atStart => exact ⟨(y117), (0), (by first | rfl | (simp; done) | (simp [pw_ne_nil, pw_eq_nil]; done) | (simp [*]; done)), H', ⟨Nat.le_refl _⟩, ⟨by (with_reducible repeat (first | apply Kd.R_alloc | apply Kd.R_drewN | apply Kd.R_drew)); exact HO119.out⟩, ⟨by repeat (first | (with_reducible first | exact HB.out | apply below_alloc | apply pw_below_drewN | apply below_drew1) | exact HB.out)⟩⟩
      case round =>
        clear H'
        try clear c2
        try clear c2b0
        try clear c2b1
        try clear p2
        try clear c3
        try clear c3b0
        try clear c3b1
        obtain ⟨x3_1, x4_1, rfl, HA, HK1, HO_3, HB⟩ := hrel
        cases gk with
        | zero => exact absurd HA.out (by simp [laws_toShareS.l0])
        | succ k1 =>
          have H := HA.out
          clear HA
          simp only [laws_toShareS.l0] at H
          by_cases c6 : x4_1 < (l0.length : Int)
          · rw [if_pos c6] at H
            have c6b0 : decide (x4_1 < (l0.length : Int)) = true := decide_eq_true c6
            clear c6
            by_cases c7 : 0 ≤ x4_1
            · rw [if_pos c7] at H
              have c7b0 : decide (0 ≤ x4_1) = true := decide_eq_true c7
              clear c7
              replace H := Option.bind_eq_some_iff.mp H
              obtain ⟨⟨t121, t122⟩, A80, H⟩ := H
              replace H : (if x4_1 < (x3_1.length : Int) then (laws_toShareS.l0 k1 l0 (x3_1.set (x4_1 : Int).toNat (⟨t121, t122⟩ : S31)) (wrap64 (x4_1 + 1))) else (none)) = some r := H
              have A8 := Aside0.mk A80
              clear A80
              by_cases c9 : x4_1 < (x3_1.length : Int)
              · rw [if_pos c9] at H
                have c9b0 : decide (x4_1 < (x3_1.length : Int)) = true := decide_eq_true c9
                clear c9
                obtain ⟨y123, hy123⟩ : ∃ y_ : List (S31), y_ = (x3_1.set (x4_1 : Int).toNat (⟨t121, t122⟩ : S31)) := ⟨_, rfl⟩
                replace H : (laws_toShareS.l0 k1 l0 y123 (wrap64 (x4_1 + 1))) = some r := by first | (rw [hy123]; with_reducible exact H) | (have H2_ := (Option.bind_some _ _).symm.trans H; rw [hy123]; with_reducible exact H2_) | (have H2_ := (Option.bind_some _ _).symm.trans H; with_reducible exact H2_) | with_reducible exact H | (rw [hy123]; exact H) | exact H
                have Ny123 := Aside0.mk hy123
                clear hy123
                have H' := Aside0.mk H
                clear H
                have p120 : 0 ≤ (x4_1 : Int) := of_decide_eq_true (by first | (with_reducible assumption) | assumption)
                have q120 : x4_1 < (l0.length : Int) := of_decide_eq_true (by first | (with_reducible assumption) | assumption)
                obtain ⟨ad120, e120, hx120_0, hx120_1⟩ := at_T34 HR0.out x4_1 p120 q120
                cases e120
                replace hx120_0 := (HB.out.cell (World.block_lt_of_cell? w _ hx120_0)).trans hx120_0
                replace hx120_1 := (HB.out.cell (World.block_lt_of_cell? w _ hx120_1)).trans hx120_1
                replace p120 := eq_true p120
                replace q120 := eq_true q120
                go_wp2_with (first | ((with_reducible refine gate_callee (f := 10) rfl ?_); refine goesL_ (some 20) rfl rfl Try.func10 (by kernel_rfl) rfl #[.agg #[.int .i64 ((rd_T34 l0 x4_1).f0), .int .i64 ((rd_T34 l0 x4_1).f1)]] rfl (by (try simp only [List.map_toArray, List.map_cons, List.map_nil]); first | done | rfl | (simp only [List.length_drop, List.length_take]; rfl)) ?_; (with_reducible refine (laws_toShare.calls ((rd_T34 l0 x4_1).f0) ((rd_T34 l0 x4_1).f1) t121 t122 _ A8.out).mono ?_); rintro e w11 ⟨rfl, hb⟩; refine ⟨_, rfl, ?_⟩; have n0_ := Aside0.mk (Kd.R_below (by (with_reducible repeat (first | apply Kd.R_alloc | apply Kd.R_drewN | apply Kd.R_drew)); exact HO_3.out) hb); have n1_ := Aside0.mk (below_step (by repeat (first | (with_reducible first | exact HB.out | apply below_alloc | apply pw_below_drewN | apply below_drew1) | exact HB.out)) hb); clear HO_3; clear HB; have HO_3 := n0_; have HB := n1_; clear n0_ n1_; (try clear hb); (try clear hb2); (try clear hk); (try clear hi); have p10 : 0 ≤ (x4_1 : Int) := of_decide_eq_true (by first | (with_reducible assumption) | assumption); have q10 : (x4_1 : Int) < ((x3_1.length : Int) : Int) := of_decide_eq_true (by first | (with_reducible assumption) | assumption); obtain ⟨go10, co10, eo10, gb10, gl10, cl10, HG10⟩ := Kd.R_form HO_3.out (by omega); (first | cases eo10 | (injection eo10 with ea_ en_ ec_; (first | subst ea_ | (injection ea_ with ea_; subst ea_)); subst ec_; clear en_)); have GB10 := Aside0.mk gb10; have GG10 := Aside0.mk HG10; clear gb10 gl10 HG10; obtain ⟨ce10, hcl10, hM10, hcc10, hfr10⟩ := Kd.R_elem HO_3.out z31 (x4_1 : Int) p10 q10; obtain rfl := k31_openM hM10; have hx10_0 : w11.cell? ⟨go10, (x4_1 : Int).toNat * 2, none⟩ = some (.int .i64 ((rd_T31 x3_1 x4_1).f0)) := hcc10 0 _ rfl; have hx10_1 : w11.cell? ⟨go10, (x4_1 : Int).toNat * 2 + 1, none⟩ = some (.int .i64 ((rd_T31 x3_1 x4_1).f1)) := hcc10 1 _ rfl; have hf10_0 : w11.frozen? ⟨go10, (x4_1 : Int).toNat * 2, none⟩ = false := hfr10 0; have hf10_1 : w11.frozen? ⟨go10, (x4_1 : Int).toNat * 2 + 1, none⟩ = false := hfr10 1; clear hcl10 hcc10 hfr10 hM10; replace p10 := eq_true p10; replace q10 := eq_true q10; have HX12 := Aside0.mk (show Kd.R k31 31 w11 w.heap.size (fun _ => True) (.slice (some ⟨go10, 0, none⟩) x3_1.length co10) x3_1 from (by (with_reducible repeat (first | apply Kd.R_alloc | apply Kd.R_drewN | apply Kd.R_drew)); exact HO_3.out)); obtain ⟨ce12, hcl12, hM12, hcc12, hfr12⟩ := Kd.R_elem HX12.out z31 (x4_1 : Int) (of_decide_eq_true (by first | (with_reducible assumption) | assumption)) (by have h_ : (x4_1 : Int) < ((x3_1.length : Int) : Int) := of_decide_eq_true (by first | (with_reducible assumption) | assumption); first | exact h_ | (have e_ := (Kd.R_reads' HO_3.out).1; omega) | simpa using h_); obtain rfl := k31_openM hM12; have HP12 := Kd.R_seg HX12.out (x4_1 : Int) (of_decide_eq_true (by first | (with_reducible assumption) | assumption)) (by have h_ : (x4_1 : Int) < ((x3_1.length : Int) : Int) := of_decide_eq_true (by first | (with_reducible assumption) | assumption); first | exact h_ | (have e_ := (Kd.R_reads' HO_3.out).1; omega) | simpa using h_) (seg := [.int .i64 t121, .int .i64 t122]) (j := 0) hcl12 hcc12 (show 2 ≤ 2 from by decide) (x' := (⟨t121, t122⟩ : S31)) (k31_mkM _ _ _ (⟨t121, t122⟩ : S31) ) (fun _ hk => hk); have hx12_0 := hcc12 0 _ rfl; (try simp only [show (k31).sz = 2 from rfl, Nat.mul_one, Nat.add_zero] at hx12_0); have hf12_0 := hfr12 0; (try simp only [show (k31).sz = 2 from rfl, Nat.mul_one, Nat.add_zero] at hf12_0); have hx12_1 := hcc12 1 _ rfl; (try simp only [show (k31).sz = 2 from rfl, Nat.mul_one, Nat.add_zero] at hx12_1); have hf12_1 := hfr12 1; (try simp only [show (k31).sz = 2 from rfl, Nat.mul_one, Nat.add_zero] at hf12_1); clear hcl12 hcc12 hfr12 hM12) | ((with_reducible refine gate_store (t := 31) (p := 21) rfl ?_); refine store_event (t := 31) (p := 21) (v := ?vo_w13) (w1 := ((w11.setCell ⟨go10, (x4_1 : Int).toNat * 2, none⟩ (.int .i64 t121)).setCell ⟨go10, (x4_1 : Int).toNat * 2 + 1, none⟩ (.int .i64 t122))) ?hg ?ho ?hn ?hr ?_; (case ho => rfl); (case hg => rfl); (case hn => rfl); (case hr => first | (go_simp; done) | (go_simp; rfl)); intro w13 hw; have hg : w11.grownBy w13 (some go10) := (by rw [hw]; exact HP12.2); have hp_ : Kd.R k31 31 w13 w.heap.size (fun _ => True) (.slice (some ⟨go10, 0, none⟩) x3_1.length co10) y123 := (by rw [hw, Ny123.out]; exact HP12.1); clear HP12; have n0_ := Aside0.mk (hp_); have n1_ := Aside0.mk ((by rw [hw]; exact below_set (below_set (HB.out) GB10.out) GB10.out : Below w.heap.size w w13)); clear HO_3; clear HB; have HO_3 := n0_; have HB := n1_; clear n0_ n1_; clear hg hw hp_))
                go_roundg k1
                case measure => have := HK1.out; omega
                case rel => exact ⟨(y123), (wrap64 (x4_1 + 1)), (by first | rfl | (simp; done) | (simp [pw_ne_nil, pw_eq_nil]; done) | (simp [*]; done)), H', ⟨by have := HK1.out; omega⟩, ⟨by (with_reducible repeat (first | apply Kd.R_alloc | apply Kd.R_drewN | apply Kd.R_drew)); exact HO_3.out⟩, ⟨by repeat (first | (with_reducible first | exact HB.out | apply below_alloc | apply pw_below_drewN | apply below_drew1) | exact HB.out)⟩⟩
              · rw [if_neg c9] at H
                exact absurd H (by simp)
            · rw [if_neg c7] at H
              exact absurd H (by simp)
          · rw [if_neg c6] at H
            have c6b0 : decide (x4_1 < (l0.length : Int)) = false := decide_eq_false c6
            clear c6
            obtain rfl := Option.some.inj H
            go_wp2
            go_ret
            exact ⟨_, by first | rfl | (simp [errW_none, errW_some] <;> rfl) | (simp [*, errW_none, errW_some] <;> rfl), by (with_reducible repeat (first | apply Kd.R_alloc | apply Kd.R_drewN | apply Kd.R_drew)); exact HO_3.out, by repeat (first | (with_reducible first | exact HB.out | apply below_alloc | apply pw_below_drewN | apply below_drew1) | exact HB.out)⟩
    · rw [if_neg c3] at H
      exact absurd H (by simp)
  · rw [if_neg c2] at H
    exact absurd H (by simp)

/-! ### impl_ypow: function 11 -/
def impl_ypow.l0 : Nat → Int → Int → Int → Int → Option (Int)
  | 0, _, _, _, _ => none
  | k + 1, x0, x1, x2, x7 => if x1 > 0 then (if (Go.bits .and .i64 x1 1) = 1 then (if x2 = 0 then (none) else (impl_ypow.l0 k (Int.tmod (wrap64 (x0 * x0)) x2) (x1 / 2) x2 (Int.tmod (wrap64 (x7 * x0)) x2))) else (if x2 = 0 then (none) else (impl_ypow.l0 k (Int.tmod (wrap64 (x0 * x0)) x2) (x1 / 2) x2 x7))) else (some x7)
def impl_ypow.f (k : Nat) (a0 : Int) (a1 : Int) (a2 : Int) : Option (Int) := if a2 = 0 then (none) else (impl_ypow.l0 k (Int.tmod a0 a2) a1 a2 1)
theorem impl_ypow.mono_l : ∀ k, (∀ y0 y1 y2 y3, LeO (impl_ypow.l0 k y0 y1 y2 y3) (impl_ypow.l0 (k + 1) y0 y1 y2 y3))
  | 0 => fun _ _ _ _ r h => by simp [impl_ypow.l0] at h
  | k + 1 => by
    have ih0 := impl_ypow.mono_l k
    · intro y0 y1 y2 y3
      unfold impl_ypow.l0
      repeat' first
      | (with_reducible exact ih0 _ _ _ _)
      | (with_reducible exact LeO.refl _)
      | (with_reducible exact LeO.none _)
      | (with_reducible refine LeO.ite ?_ ?_)
      | (with_reducible refine LeO.bind ?_ (fun _ => ?_))
      | exact ih0 _ _ _ _
      | exact LeO.none _
      | refine LeO.ite ?_ ?_
      | refine LeO.bind ?_ (fun _ => ?_)
theorem impl_ypow.mono : ∀ a0 a1 a2 k, LeO (impl_ypow.f k a0 a1 a2) (impl_ypow.f (k + 1) a0 a1 a2) := by
  intro a0 a1 a2 k
  have ih0 := impl_ypow.mono_l k
  unfold impl_ypow.f
  repeat' first
      | (with_reducible exact ih0 _ _ _ _)
      | (with_reducible exact LeO.refl _)
      | (with_reducible exact LeO.none _)
      | (with_reducible refine LeO.ite ?_ ?_)
      | (with_reducible refine LeO.bind ?_ (fun _ => ?_))
      | exact ih0 _ _ _ _
      | exact LeO.none _
      | refine LeO.ite ?_ ?_
      | refine LeO.bind ?_ (fun _ => ?_)
set_option maxHeartbeats 8000000 in
set_option maxRecDepth 100000 in
theorem impl_ypow.calls (k : Nat) (a0 : Int) (a1 : Int) (a2 : Int) (r : Int) (w : World) (h : impl_ypow.f k a0 a1 a2 = some r) :
    Calls Try.prog 11 #[.int .i64 a0, .int .i64 a1, .int .i64 a2] w fun e w' => e = .returned (.int .i64 r) ∧ Drawn0 w w' := by
  have H : (if a2 = 0 then (none) else (impl_ypow.l0 k (Int.tmod a0 a2) a1 a2 1)) = some r := h
  clear h
  by_cases c4 : a2 = 0
  · rw [if_pos c4] at H
    exact absurd H (by simp)
  · rw [if_neg c4] at H
    have c4b0 : (a2 == 0) = false := beq_eq_false_iff_ne.mpr c4
    have c4b1 : (a2 != 0) = true := bne_iff_ne.mpr c4
    have H' := Aside0.mk H
    clear H
    go_enter Try.func11, Try.ntmps11
    go_wp2
    go_loopg [0, 1, 7] k (fun kq v0 v1 v7 w' => ∃ (x0_1 : Int) (x1_1 : Int) (x7_1 : Int), v0 = .int .i64 x0_1 ∧ v1 = .int .i64 x1_1 ∧ v7 = .int .i64 x7_1 ∧ Aside0 (impl_ypow.l0 kq x0_1 x1_1 a2 x7_1 = some r) ∧ Aside0 (kq ≤ k) ∧ Drawn0 w w')
    case atStart => exact ⟨(Int.tmod a0 a2), (a1), (1), (by first | rfl | (simp; done) | (simp [pw_ne_nil, pw_eq_nil]; done) | (simp [*]; done)), (by first | rfl | (simp; done) | (simp [pw_ne_nil, pw_eq_nil]; done) | (simp [*]; done)), (by first | rfl | (simp; done) | (simp [pw_ne_nil, pw_eq_nil]; done) | (simp [*]; done)), H', ⟨Nat.le_refl _⟩, by repeat (first | exact Drawn0.refl _ | apply Drawn0.step)⟩
    case round =>
      clear H'
      try clear c1
      try clear p2
      try clear c4
      try clear c4b0
      try clear c4b1
      obtain ⟨x0_1, x1_1, x7_1, rfl, rfl, rfl, HA, HK1, ⟨m1, rfl⟩⟩ := hrel
      cases gk with
      | zero => exact absurd HA.out (by simp [impl_ypow.l0])
      | succ k1 =>
        have H := HA.out
        clear HA
        simp only [impl_ypow.l0] at H
        by_cases c5 : x1_1 > 0
        · rw [if_pos c5] at H
          have c5b0 : decide (0 < x1_1) = true := decide_eq_true c5
          clear c5
          by_cases c6 : (Go.bits .and .i64 x1_1 1) = 1
          · rw [if_pos c6] at H
            have c6b0 : ((Go.bits .and .i64 x1_1 1) == 1) = true := beq_iff_eq.mpr c6
            have c6b1 : ((Go.bits .and .i64 x1_1 1) != 1) = false := bne_eq_false_iff_eq.mpr c6
            clear c6
            by_cases c7 : a2 = 0
            · rw [if_pos c7] at H
              exact absurd H (by simp)
            · rw [if_neg c7] at H
              have c7b0 : (a2 == 0) = false := beq_eq_false_iff_ne.mpr c7
              have c7b1 : (a2 != 0) = true := bne_iff_ne.mpr c7
              have H' := Aside0.mk H
              clear H
              go_wp2
              go_roundg k1
              case measure => have := HK1.out; omega
              case rel => exact ⟨(Int.tmod (wrap64 (x0_1 * x0_1)) a2), (x1_1 / 2), (Int.tmod (wrap64 (x7_1 * x0_1)) a2), (by first | rfl | (simp; done) | (simp [pw_ne_nil, pw_eq_nil]; done) | (simp [*]; done)), (by first | rfl | (simp; done) | (simp [pw_ne_nil, pw_eq_nil]; done) | (simp [*]; done)), (by first | rfl | (simp; done) | (simp [pw_ne_nil, pw_eq_nil]; done) | (simp [*]; done)), H', ⟨by have := HK1.out; omega⟩, by repeat (first | exact Drawn0.refl _ | apply Drawn0.step)⟩
          · rw [if_neg c6] at H
            have c6b0 : ((Go.bits .and .i64 x1_1 1) == 1) = false := beq_eq_false_iff_ne.mpr c6
            have c6b1 : ((Go.bits .and .i64 x1_1 1) != 1) = true := bne_iff_ne.mpr c6
            by_cases c8 : a2 = 0
            · rw [if_pos c8] at H
              exact absurd H (by simp)
            · rw [if_neg c8] at H
              have c8b0 : (a2 == 0) = false := beq_eq_false_iff_ne.mpr c8
              have c8b1 : (a2 != 0) = true := bne_iff_ne.mpr c8
              have H' := Aside0.mk H
              clear H
              go_wp2
              go_roundg k1
              case measure => have := HK1.out; omega
              case rel => exact ⟨(Int.tmod (wrap64 (x0_1 * x0_1)) a2), (x1_1 / 2), (x7_1), (by first | rfl | (simp; done) | (simp [pw_ne_nil, pw_eq_nil]; done) | (simp [*]; done)), (by first | rfl | (simp; done) | (simp [pw_ne_nil, pw_eq_nil]; done) | (simp [*]; done)), (by first | rfl | (simp; done) | (simp [pw_ne_nil, pw_eq_nil]; done) | (simp [*]; done)), H', ⟨by have := HK1.out; omega⟩, by repeat (first | exact Drawn0.refl _ | apply Drawn0.step)⟩
        · rw [if_neg c5] at H
          have c5b0 : decide (0 < x1_1) = false := decide_eq_false c5
          clear c5
          obtain rfl := Option.some.inj H
          go_wp2
          go_ret
          exact ⟨by first | rfl | (simp; done) | (simp [*]; done), by repeat (first | exact Drawn0.refl _ | apply Drawn0.step)⟩

/-! ### impl_Join: function 7 -/
/-! ### a map of the call's own, told by what its look-ups give -/
structure MapI (P : Program) (k e : TypeId) {κ ε : Type} (kl : κ → Lit) (el : ε → DataW Unit) (z : ε) (w : World) (b n : Nat) (f : κ → ε) : Prop where
  ex : ∃ D : DataW Unit, w.ownsMap P k (plainElem P e) b n D ∧ Go.Maps.IsMap D ∧ ∀ a, D.atKey (kl a) (el z) = el (f a)
theorem MapI.made {P : Program} {k e : TypeId} {κ ε : Type} {kl : κ → Lit} {el : ε → DataW Unit} {z : ε} (w : World) : MapI P k e kl el z (w.alloc (.map #[] 0)) w.heap.size 0 (fun _ => z) :=
  ⟨.map [], World.ownsMap_made _ _ _ _, ⟨[], rfl⟩, fun _ => rfl⟩
theorem MapI.kept {P : Program} {k e : TypeId} {κ ε : Type} {kl : κ → Lit} {el : ε → DataW Unit} {z : ε} {w w' : World} {b n : Nat} {f : κ → ε} {row : Option Nat} (h : MapI P k e kl el z w b n f) (hg : w.grownBy w' row) (hne : some b ≠ row) : MapI P k e kl el z w' b n f := by
  obtain ⟨D, h1, h2, h3⟩ := h
  exact ⟨D, h1.kept hg hne, h2, h3⟩
theorem MapI.lt {P : Program} {k e : TypeId} {κ ε : Type} {kl : κ → Lit} {el : ε → DataW Unit} {z : ε} {w : World} {b n : Nat} {f : κ → ε} (h : MapI P k e kl el z w b n f) : b < w.heap.size := by
  obtain ⟨D, h1, _⟩ := h
  exact h1.lt
theorem MapI.below {P : Program} {k e : TypeId} {κ ε : Type} {kl : κ → Lit} {el : ε → DataW Unit} {z : ε} {w w' : World} {b n : Nat} {f : κ → ε} (h : MapI P k e kl el z w b n f) (hg : Below w.heap.size w w') : MapI P k e kl el z w' b n f :=
  h.kept (grown_of_below hg none) (by simp)
theorem MapI.look {κ ε : Type} {kl : κ → Lit} {el : ε → DataW Unit} {z : ε} {P : Program} {w : World} {k e t : TypeId} {b n : Nat} {f : κ → ε} (hown : MapI P k e kl el z w b n f) (K : Go.Maps.Keyed P k) (ht : P.underlying t = some (.map k e)) (ev : ε → Value) (hz : (zeroValue e).run P w = .ok (ev z) w) (hez : plainElem P e (ev z) = some (el z, []))
    (hinv : ∀ v y ps, plainElem P e v = some (el y, ps) → v = ev y) {kv : Value} {key : κ} (hkey : keyOf P k kv = some (kl key)) : (Instr.lookup t (.map (some b)) kv false).run P w = .ok (ev (f key)) w := by
  obtain ⟨D, h1, _, h3⟩ := hown
  obtain ⟨v, ps, hrun, hv⟩ := h1.lookup K ht hz hez hkey
  rw [h3] at hv
  obtain rfl := hinv _ _ _ hv
  exact hrun
theorem wpList_lookup_mapI {κ ε : Type} {kl : κ → Lit} {el : ε → DataW Unit} {z : ε} {P : Program} (w : World) {ops : Array Oper} {rest : List Oper} {o : Oper} {a : Act} {Q : Exit → Act → World → Prop}
    (hg : o.guard = none) (m x : Operand) (t : TypeId) (hop : o.op = Op.lookup t m x false)
    (k e : TypeId) (K : Go.Maps.Keyed P k) (ht : P.underlying t = some (.map k e)) (ev : ε → Value) (hz : (zeroValue e).run P w = .ok (ev z) w) (hez : plainElem P e (ev z) = some (el z, []))
    (hinv : ∀ v y ps, plainElem P e v = some (el y, ps) → v = ev y) (b n : Nat) (f : κ → ε)
    (hm : a.eval m = .map (some b)) (hown : MapI P k e kl el z w b n f) (kv : Value) (key : κ) (hx : a.eval x = kv) (hkey : keyOf P k kv = some (kl key))
    (hK : wpList P ops Q rest (a.put o.dst (ev (f key))) w) :
    wpList P ops Q (o :: rest) a w := by
  refine wpList_plain hg fun K' hK' => ?_
  obtain ⟨D, h1, _, h3⟩ := hown
  obtain ⟨v, ps, hrun, hv⟩ := h1.lookup K ht hz hez hkey
  rw [h3] at hv
  obtain rfl := hinv _ _ _ hv
  unfold Oper.wp
  simp [execOp, hop, hm, hx, hrun, Result.andThen]
  exact hK' _ _ hK
theorem wpList_mapUpdate_mapI {κ ε : Type} [DecidableEq κ] {kl : κ → Lit} {el : ε → DataW Unit} {z : ε} {P : Program} (w : World) {ops : Array Oper} {rest : List Oper} {o : Oper} {a : Act} {Q : Exit → Act → World → Prop}
    (hg : o.guard = none) (m x v : Operand) (t : TypeId) (hop : o.op = Op.mapUpdate t m x v)
    (k e : TypeId) (K : Go.Maps.Keyed P k) (ht : P.underlying t = some (.map k e)) (hkl : ∀ a, WideAt.IsKeyLit (kl a)) (hinj : ∀ a b, kl a = kl b → a = b) (b n : Nat) (f : κ → ε)
    (hm : a.eval m = .map (some b)) (hown : MapI P k e kl el z w b n f) (hn : n < maxLen) (kv val : Value) (key : κ) (y : ε) (hx : a.eval x = kv) (hv : a.eval v = val) (hkey : keyOf P k kv = some (kl key))
    (hval : plainElem P e val = some (el y, []))
    (hK : ∀ w', MapI P k e kl el z w' b (n + 1) (fun c => if c = key then y else f c) → w.grownBy w' (some b) → wpList P ops Q rest (a.put o.dst undef) w') :
    wpList P ops Q (o :: rest) a w := by
  obtain ⟨D, h1, h2, h3⟩ := hown
  refine wpList_mapUpdate_own w hg m x v t hop k e K ht _ b n D hm h1 hn kv val (kl key) hx hv hkey (el y) [] hval fun w' r1 r2 => hK w' ⟨_, r1, h2.put _ _, fun c => ?_⟩ r2
  show _ = el (if c = key then y else f c)
  split
  · rename_i h; subst h; exact Go.Maps.atKey_put_same h2 (hkl _) _ _
  · rename_i h; rw [Go.Maps.atKey_put_other (fun q => h (hinj _ _ q))]; exact h3 c
def klI (a : Int) : Lit := .int .i64 a
def klS (a : ByteArray) : Lit := .string a.data.toList
def elI (a : Int) : DataW Unit := .lit (.int .i64 a)
def elB (a : Bool) : DataW Unit := .lit (.bool a)
theorem klI_inj : ∀ a b, klI a = klI b → a = b := fun a b h => by simpa [klI] using h
theorem klS_inj : ∀ a b, klS a = klS b → a = b := fun a b h => by
  have h : a.data.toList = b.data.toList := by simpa [klS] using h
  cases a; cases b; simp at h; simp [h]
theorem klI_key : ∀ a, WideAt.IsKeyLit (klI a) := fun _ => trivial
theorem klS_key : ∀ a, WideAt.IsKeyLit (klS a) := fun _ => trivial
theorem elB_inv {P : Program} {e : TypeId} (he : P.underlying e = some .bool) : ∀ v y ps, plainElem P e v = some (elB y, ps) → v = .bool y := fun v y ps h => by
  unfold plainElem at h
  rw [he] at h
  cases v <;> simp [elB] at h
  rw [h.1]
theorem elI_inv {P : Program} {e : TypeId} (he : P.underlying e = some (.int .i64)) : ∀ v y ps, plainElem P e v = some (elI y, ps) → v = .int .i64 y := fun v y ps h => by
  obtain ⟨c, rfl, h2, _⟩ := plainElem_int_inv he h
  simp [elI] at h2
  rw [h2.1]
def seenJ (l : List S31) : Nat → Int → Bool
  | 0 => fun _ => false
  | k + 1 => fun a => if a = (rd_T31 l (k : Int)).f0 then true else seenJ l k a
def badJ (l : List S31) (k : Nat) : Bool := decide ((rd_T31 l (k : Int)).f0 < 1) || decide ((rd_T31 l (k : Int)).f0 ≥ 1073741789) || decide ((rd_T31 l (k : Int)).f1 < 0) || decide ((rd_T31 l (k : Int)).f1 ≥ 1073741789) || seenJ l k (rd_T31 l (k : Int)).f0
def allJ (l : List S31) : Nat → Bool
  | 0 => true
  | k + 1 => allJ l k && !badJ l k
def numJ (l : List S31) (i : Nat) : Nat → Int
  | 0 => (rd_T31 l (i : Int)).f1
  | k + 1 => if k = i then numJ l i k else Int.tmod (wrap64 (numJ l i k * (rd_T31 l (k : Int)).f0)) 1073741789
def denJ (l : List S31) (i : Nat) : Nat → Int
  | 0 => 1
  | k + 1 => if k = i then denJ l i k else Int.tmod (wrap64 (denJ l i k * (Int.tmod (wrap64 (wrap64 ((rd_T31 l (k : Int)).f0 - (rd_T31 l (i : Int)).f0) + 1073741789)) 1073741789))) 1073741789
def joinS (k : Nat) (l : List S31) : Nat → Option Int
  | 0 => some 0
  | i + 1 => (joinS k l i).bind fun s => (impl_ypow.f k (denJ l i l.length) 1073741787 1073741789).bind fun p => some (Int.tmod (wrap64 (s + (wrap64 (numJ l i l.length * p)))) 1073741789)
def impl_Join.f (k : Nat) (l0 : List S31) : Option (Int × Bool) := if (l0.length : Int) < 1 then some (0, false) else (if (l0.length : Int) > 20 then some (0, false) else (if allJ l0 l0.length = true then (joinS k l0 l0.length).bind fun s => some (s, true) else some (0, false)))
theorem joinS.mono (l : List S31) (k : Nat) : ∀ i, LeO (joinS k l i) (joinS (k + 1) l i)
  | 0 => LeO.refl _
  | i + 1 => LeO.bind (joinS.mono l k i) fun _ => LeO.bind (impl_ypow.mono _ _ _ k) fun _ => LeO.refl _
theorem impl_Join.mono : ∀ a0 k, LeO (impl_Join.f k a0) (impl_Join.f (k + 1) a0) := by
  intro a0 k
  unfold impl_Join.f
  refine LeO.ite (LeO.refl _) (LeO.ite (LeO.refl _) (LeO.ite (LeO.bind (joinS.mono _ _ _) fun _ => LeO.refl _) (LeO.refl _)))
theorem allJ_le (l : List S31) (n : Nat) : ∀ m, n ≤ m → allJ l m = true → allJ l n = true
  | 0, h, h1 => by obtain rfl : n = 0 := by omega
                   exact h1
  | m + 1, h, h1 => by
    by_cases e : n = m + 1
    · subst e; exact h1
    · simp only [allJ, Bool.and_eq_true] at h1
      exact allJ_le l n m (by omega) h1.1
theorem joinS_le (k : Nat) (l : List S31) (n : Nat) : ∀ m r, n ≤ m → joinS k l m = some r → ∃ s, joinS k l n = some s
  | 0, r, h, h1 => by obtain rfl : n = 0 := by omega
                      exact ⟨r, h1⟩
  | m + 1, r, h, h1 => by
    by_cases e : n = m + 1
    · subst e; exact ⟨r, h1⟩
    · simp only [joinS, Option.bind_eq_some_iff] at h1
      obtain ⟨s, h2, _⟩ := h1
      exact joinS_le k l n m s (by omega) h2
theorem notAll {k : Nat} {l : List S31} {i : Nat} {r1 : Int} {r2 : Bool} (hi : i < l.length) (hb : badJ l i = true) (h : (if allJ l l.length = true then (joinS k l l.length).bind fun s => some (s, true) else some (0, false)) = some (r1, r2)) : 0 = r1 ∧ false = r2 := by
  have ha : ¬ allJ l l.length = true := fun h1 => by
    have h2 := allJ_le l (i + 1) l.length (by omega) h1
    simp [allJ, hb] at h2
  rw [if_neg ha] at h
  simp only [Option.some.injEq, Prod.mk.injEq] at h
  exact h
theorem measJ {n i : Nat} {x : Int} (hx : x = (i : Int) + 1) (hi : i < n) : n - (intOf (.int .i64 x)).toNat < n - (intOf (.int .i64 (i : Int))).toNat := by
  subst hx
  show n - ((i : Int) + 1).toNat < n - (i : Int).toNat
  omega
theorem lawJ : Go.Maps.Keyed Try.prog 3 := Go.Maps.int_keyed Try.underlying3
theorem zeroJ (w : World) : (zeroValue 4).run Try.prog w = .ok (.bool false) w := by kernel_rfl
abbrev MJ (w : World) (b n : Nat) (f : Int → Bool) : Prop := MapI Try.prog 3 4 klI elB false w b n f
set_option maxHeartbeats 8000000 in
set_option maxRecDepth 100000 in
theorem impl_Join.calls (k : Nat) (A0 : Option Addr) (c0 : Nat) (l0 : List S31) (r1 : Int) (r2 : Bool) (w : World) (hr0 : Kd.C k31 w A0 l0.length l0) (hc0 : l0.length ≤ c0) (h : impl_Join.f k l0 = some (r1, r2)) :
    Calls Try.prog 7 #[.slice A0 l0.length c0] w fun e w' => e = .returned (.tuple #[.int .i64 r1, .bool r2]) ∧ Below w.heap.size w w' := by
  have hu31 := Try.underlying31
  have hmm := @run_makeMap Try.prog
  have HR0 := Aside0.mk hr0
  have HC0 := Aside0.mk hc0
  clear hr0 hc0
  unfold impl_Join.f at h
  by_cases c1 : (l0.length : Int) < 1
  · rw [if_pos c1] at h
    simp only [Option.some.injEq, Prod.mk.injEq] at h
    obtain ⟨rfl, rfl⟩ := h
    have c1a : decide ((l0.length : Int) < 1) = true := decide_eq_true c1
    have c1b : decide (l0.length < 1) = true := decide_eq_true (by omega)
    clear c1
    go_enter Try.func7, Try.ntmps7
    go_wp2
    go_ret2
    exact ⟨rfl, Below.refl _ _⟩
  rw [if_neg c1] at h
  have c1a : decide ((l0.length : Int) < 1) = false := decide_eq_false c1
  have c1b : decide (l0.length < 1) = false := decide_eq_false (by omega)
  by_cases c2 : (l0.length : Int) > 20
  · rw [if_pos c2] at h
    simp only [Option.some.injEq, Prod.mk.injEq] at h
    obtain ⟨rfl, rfl⟩ := h
    have c2a : decide (20 < (l0.length : Int)) = true := decide_eq_true c2
    have c2b : decide (20 < l0.length) = true := decide_eq_true (by omega)
    clear c1 c2
    go_enter Try.func7, Try.ntmps7
    go_wp2
    go_ret2
    exact ⟨rfl, Below.refl _ _⟩
  rw [if_neg c2] at h
  have c2a : decide (20 < (l0.length : Int)) = false := decide_eq_false c2
  have c2b : decide (20 < l0.length) = false := decide_eq_false (by omega)
  have HN := Aside0.mk (show l0.length ≤ 20 by omega)
  clear c1 c2
  have H := Aside0.mk h
  clear h
  go_enter Try.func7, Try.ntmps7
  go_wp2
  go_loopw [25] (fun v25 w' => ∃ i : Nat, i ≤ l0.length ∧ v25 = .int .i64 i ∧ Aside0 (allJ l0 i = true) ∧ Aside0 (MJ w' w.heap.size i (seenJ l0 i)) ∧ Aside0 (Below w.heap.size w w')) (fun v25 _ => l0.length - (intOf v25).toNat)
  case atStart => exact ⟨0, Nat.zero_le _, rfl, ⟨rfl⟩, ⟨MapI.made w⟩, ⟨(Below.refl _ w).alloc (Nat.le_refl _) _⟩⟩
  case round =>
    obtain ⟨i, hi, rfl, HA, HM, HB⟩ := hrel
    by_cases hlt : i < l0.length
    · have q1 := eq_true (show (i : Int) < l0.length by omega)
      obtain ⟨ad, e1, hx0, hx1⟩ := at_T31 HR0.out (i : Int) (by omega) (by omega)
      cases e1
      replace hx0 := (HB.out.cell (World.block_lt_of_cell? w _ hx0)).trans hx0
      replace hx1 := (HB.out.cell (World.block_lt_of_cell? w _ hx1)).trans hx1
      rw [Int.toNat_natCast] at hx0 hx1
      have HM1 := fun (cs : Array Value) => HM.out.kept (World.grownBy_alloc wr (.cells cs 31) none) (by simp)
      by_cases d1 : (rd_T31 l0 (i : Int)).f0 < 1
      · have hbad : badJ l0 i = true := by unfold badJ; simp [d1]
        have d1b : decide ((rd_T31 l0 (i : Int)).f0 < 1) = true := decide_eq_true d1
        clear d1
        obtain ⟨rfl, rfl⟩ := notAll hlt hbad H.out
        go_wp2
        go_ret2
        exact ⟨rfl, (by repeat (first | (with_reducible first | exact HB.out | apply below_alloc | apply pw_below_drewN | apply below_drew1) | exact HB.out))⟩
      have d1b : decide ((rd_T31 l0 (i : Int)).f0 < 1) = false := decide_eq_false d1
      by_cases d2 : (rd_T31 l0 (i : Int)).f0 ≥ 1073741789
      · have hbad : badJ l0 i = true := by unfold badJ; simp [d2]
        have d2b : decide (1073741789 ≤ (rd_T31 l0 (i : Int)).f0) = true := decide_eq_true d2
        clear d2
        obtain ⟨rfl, rfl⟩ := notAll hlt hbad H.out
        go_wp2
        go_ret2
        exact ⟨rfl, (by repeat (first | (with_reducible first | exact HB.out | apply below_alloc | apply pw_below_drewN | apply below_drew1) | exact HB.out))⟩
      have d2b : decide (1073741789 ≤ (rd_T31 l0 (i : Int)).f0) = false := decide_eq_false d2
      by_cases d3 : (rd_T31 l0 (i : Int)).f1 < 0
      · have hbad : badJ l0 i = true := by unfold badJ; simp [d3]
        have d3b : decide ((rd_T31 l0 (i : Int)).f1 < 0) = true := decide_eq_true d3
        clear d3
        obtain ⟨rfl, rfl⟩ := notAll hlt hbad H.out
        go_wp2
        go_ret2
        exact ⟨rfl, (by repeat (first | (with_reducible first | exact HB.out | apply below_alloc | apply pw_below_drewN | apply below_drew1) | exact HB.out))⟩
      have d3b : decide ((rd_T31 l0 (i : Int)).f1 < 0) = false := decide_eq_false d3
      by_cases d4 : (rd_T31 l0 (i : Int)).f1 ≥ 1073741789
      · have hbad : badJ l0 i = true := by unfold badJ; simp [d4]
        have d4b : decide (1073741789 ≤ (rd_T31 l0 (i : Int)).f1) = true := decide_eq_true d4
        clear d4
        obtain ⟨rfl, rfl⟩ := notAll hlt hbad H.out
        go_wp2
        go_ret2
        exact ⟨rfl, (by repeat (first | (with_reducible first | exact HB.out | apply below_alloc | apply pw_below_drewN | apply below_drew1) | exact HB.out))⟩
      have d4b : decide (1073741789 ≤ (rd_T31 l0 (i : Int)).f1) = false := decide_eq_false d4
      have HL := (HM1 #[.int .i64 ((rd_T31 l0 (i : Int)).f0), .int .i64 ((rd_T31 l0 (i : Int)).f1)]).look (t := 35) lawJ Try.underlying35 (fun b => .bool b) (zeroJ _) (plainElem_bool Try.underlying4 _) (elB_inv Try.underlying4) (key := ((rd_T31 l0 (i : Int)).f0)) (Go.Maps.keyOf_int_mk Try.underlying3 (WalkArith.wf_i64 (by omega)))
      by_cases d5 : seenJ l0 i ((rd_T31 l0 (i : Int)).f0) = true
      · have hbad : badJ l0 i = true := by unfold badJ; simp [d5]
        obtain ⟨rfl, rfl⟩ := notAll hlt hbad H.out
        rw [d5] at HL
        go_wp2
        go_ret2
        exact ⟨rfl, (by repeat (first | (with_reducible first | exact HB.out | apply below_alloc | apply pw_below_drewN | apply below_drew1) | exact HB.out))⟩
      replace d5 := Bool.eq_false_iff.mpr d5
      rw [d5] at HL
      have HB1 := HB.out.alloc HB.out.size (.cells #[.int .i64 ((rd_T31 l0 (i : Int)).f0), .int .i64 ((rd_T31 l0 (i : Int)).f1)] 31)
      go_wp2_with (first | (at_mapUpdate; refine wpList_mapUpdate_mapI _ rfl _ _ _ 35 rfl 3 4 lawJ Try.underlying35 klI_key klI_inj w.heap.size i (seenJ l0 i) rfl (HM1 _) (by have := HN.out; unfold maxLen; omega) _ _ ((rd_T31 l0 (i : Int)).f0) true rfl rfl (Go.Maps.keyOf_int_mk Try.underlying3 (WalkArith.wf_i64 (by omega))) (plainElem_bool Try.underlying4 _) ?_; intro w1 HM2 hg1) | go_in)
      have hN := HN.out
      have hW : wrap64 ((i : Int) + 1) = (i : Int) + 1 := by unfold wrap64; omega
      go_roundw
      case rel => exact ⟨i + 1, by omega, by go_num, ⟨by simp only [allJ, badJ, HA.out]; simp [d5]; omega⟩, ⟨HM2⟩, ⟨HB1.grown hg1 HB1.size (fun j hj => by cases hj; exact Nat.le_refl _)⟩⟩
      case measure => exact measJ (by with_reducible first | assumption | rfl) hlt
    · obtain rfl : i = l0.length := by omega
      have hH := H.out
      rw [if_pos HA.out] at hH
      simp only [Option.bind_eq_some_iff, Option.some.injEq, Prod.mk.injEq] at hH
      obtain ⟨s, hS, rfl, rfl⟩ := hH
      clear H HA HM
      have HS := Aside0.mk hS
      clear hS
      go_wp2
      go_loopw [7, 59] (fun v7 v59 w' => ∃ (i : Nat) (s1 : Int), i ≤ l0.length ∧ v7 = .int .i64 s1 ∧ v59 = .int .i64 i ∧ Aside0 (joinS k l0 i = some s1) ∧ Aside0 (Below w.heap.size w w')) (fun _ v59 _ => l0.length - (intOf v59).toNat)
      case atStart => exact ⟨0, 0, Nat.zero_le _, rfl, rfl, ⟨rfl⟩, HB⟩
      case round =>
        clear HB
        obtain ⟨i, s1, hi, rfl, rfl, HI, HB⟩ := hrel
        have hN := HN.out
        by_cases hlt : i < l0.length
        · have q1 := eq_true (show (i : Int) < l0.length by omega)
          have hW : wrap64 ((i : Int) + 1) = (i : Int) + 1 := by unfold wrap64; omega
          obtain ⟨ad, e1, hx0, hx1⟩ := at_T31 HR0.out (i : Int) (by omega) (by omega)
          cases e1
          replace hx0 := (HB.out.cell (World.block_lt_of_cell? w _ hx0)).trans hx0
          replace hx1 := (HB.out.cell (World.block_lt_of_cell? w _ hx1)).trans hx1
          rw [Int.toNat_natCast] at hx0 hx1
          obtain ⟨s2, hS2⟩ := joinS_le k l0 (i + 1) l0.length s (by omega) HS.out
          have hS3 := hS2
          simp only [joinS, HI.out, Option.bind_some, Option.bind_eq_some_iff, Option.some.injEq] at hS3
          obtain ⟨p, hp, rfl⟩ := hS3
          have HP := Aside0.mk hp
          have HS2 := Aside0.mk hS2
          clear hp hS2
          go_wp2
          go_loopw [10, 11, 68] (fun v10 v11 v68 w' => ∃ k2 : Nat, k2 ≤ l0.length ∧ v10 = .int .i64 (numJ l0 i k2) ∧ v11 = .int .i64 (denJ l0 i k2) ∧ v68 = .int .i64 k2 ∧ Aside0 (w'.heap[wr.heap.size]? = some (.cells #[.int .i64 ((rd_T31 l0 (i : Int)).f0), .int .i64 ((rd_T31 l0 (i : Int)).f1)] 31 (0, 0))) ∧ Aside0 (Below w.heap.size w w')) (fun _ _ v68 _ => l0.length - (intOf v68).toNat)
          case atStart => exact ⟨0, Nat.zero_le _, rfl, rfl, rfl, ⟨heap_alloc_new _ _⟩, ⟨below_alloc HB.out _⟩⟩
          case round =>
            clear HB
            obtain ⟨k2, hk2, rfl, rfl, rfl, BK, HB⟩ := hrel
            by_cases hlt2 : k2 < l0.length
            · have q2 := eq_true (show (k2 : Int) < l0.length by omega)
              have hW2 : wrap64 ((k2 : Int) + 1) = (k2 : Int) + 1 := by unfold wrap64; omega
              obtain ⟨ad2, e2, hy0, hy1⟩ := at_T31 HR0.out (k2 : Int) (by omega) (by omega)
              obtain rfl : ad = ad2 := (by injection e2)
              replace hy0 := (HB.out.cell (World.block_lt_of_cell? w _ hy0)).trans hy0
              replace hy1 := (HB.out.cell (World.block_lt_of_cell? w _ hy1)).trans hy1
              rw [Int.toNat_natCast] at hy0 hy1
              have BK2 := fun (o : Obj) => blk_alloc BK.out o
              have hs0 := fun (o : Obj) => (blk_cell (BK2 o) 0).trans rfl
              by_cases he : k2 = i
              · have he1 : ((k2 : Int) == (i : Int)) = true := beq_iff_eq.mpr (by omega)
                have he2 : ((k2 : Int) != (i : Int)) = false := bne_eq_false_iff_eq.mpr (by omega)
                have HE := Aside0.mk he
                clear he
                go_wp2
                go_roundw
                case rel => exact ⟨k2 + 1, by omega, by simp only [numJ, if_pos HE.out], by simp only [denJ, if_pos HE.out], by go_num, ⟨BK2 _⟩, ⟨below_alloc HB.out _⟩⟩
                case measure => exact measJ (by with_reducible first | assumption | rfl) hlt2
              · have he1 : ((k2 : Int) == (i : Int)) = false := beq_eq_false_iff_ne.mpr (by omega)
                have he2 : ((k2 : Int) != (i : Int)) = true := bne_iff_ne.mpr (by omega)
                have HE := Aside0.mk he
                clear he
                go_wp2
                go_roundw
                case rel => exact ⟨k2 + 1, by omega, by simp only [numJ, if_neg HE.out], by simp only [denJ, if_neg HE.out], by go_num, ⟨BK2 _⟩, ⟨below_alloc HB.out _⟩⟩
                case measure => exact measJ (by with_reducible first | assumption | rfl) hlt2
            · obtain rfl : k2 = l0.length := by omega
              go_wp2_with (first | (go_at_call 11; refine (impl_ypow.calls k _ 1073741787 1073741789 p _ HP.out).mono ?_; rintro e w' ⟨rfl, ⟨nd, rfl⟩⟩))
              go_roundw
              case rel => exact ⟨i + 1, _, by omega, rfl, by go_num, HS2, ⟨pw_below_drewN HB.out _⟩⟩
              case measure => exact measJ (by with_reducible first | assumption | rfl) hlt
        · obtain rfl : i = l0.length := by omega
          obtain rfl : s = s1 := Option.some.inj (HS.out.symm.trans HI.out)
          go_wp2
          go_ret2
          exact ⟨rfl, HB.out⟩

/-! ### laws_eqShare: function 12 -/
def laws_eqShare.f (a0_0 : Int) (a0_1 : Int) (a1_0 : Int) (a1_1 : Int) : Option (Bool) := if a0_0 = a1_0 then (if a0_1 = a1_1 then (some true) else (some false)) else (some false)
set_option maxHeartbeats 8000000 in
set_option maxRecDepth 100000 in
theorem laws_eqShare.calls (a0_0 : Int) (a0_1 : Int) (a1_0 : Int) (a1_1 : Int) (r : Bool) (w : World) (h : laws_eqShare.f a0_0 a0_1 a1_0 a1_1 = some r) :
    Calls Try.prog 12 #[.agg #[.int .i64 a0_0, .int .i64 a0_1], .agg #[.int .i64 a1_0, .int .i64 a1_1]] w fun e w' => e = .returned (.bool r) ∧ Below w.heap.size w w' := by
  have hu31 := Try.underlying31
  have HB := Aside0.mk (Below.refl w.heap.size w)
  have H : (if a0_0 = a1_0 then (if a0_1 = a1_1 then (some true) else (some false)) else (some false)) = some r := h
  clear h
  by_cases c3 : a0_0 = a1_0
  · rw [if_pos c3] at H
    have c3b0 : (a0_0 == a1_0) = true := beq_iff_eq.mpr c3
    have c3b1 : (a0_0 != a1_0) = false := bne_eq_false_iff_eq.mpr c3
    clear c3
    by_cases c4 : a0_1 = a1_1
    · rw [if_pos c4] at H
      have c4b0 : (a0_1 == a1_1) = true := beq_iff_eq.mpr c4
      have c4b1 : (a0_1 != a1_1) = false := bne_eq_false_iff_eq.mpr c4
      clear c4
      obtain rfl := Option.some.inj H
      go_enter Try.func12, Try.ntmps12
      go_wp2_with (first | ((with_reducible refine gate_dst (N := 2) rfl ?_); refine box_event ?hg (N := 2) ?hd (cs := #[.int .i64 a0_0, .int .i64 a0_1]) (t := 31) ?hr ?_; (case hd => rfl); (case hg => rfl); (case hr => first | (go_simp; done) | (go_simp; rfl)); intro gb124 hg w5 hbox hb; have n0_ := Aside0.mk (below_step (by repeat (first | (with_reducible first | exact HB.out | apply below_alloc | apply pw_below_drewN | apply below_drew1) | exact HB.out)) hb); have n1_ := Aside0.mk (hbox); have n2_ := Aside0.mk ((by rw [hg]; exact (below_size (by repeat (first | (with_reducible first | exact HB.out | apply below_alloc | apply pw_below_drewN | apply below_drew1) | exact HB.out))) : w.heap.size ≤ gb124)); have n3_ := Aside0.mk ((by rw [hg]; exact (below_size (by repeat (first | (with_reducible first | exact HB.out | apply below_alloc | apply pw_below_drewN | apply below_drew1) | exact HB.out))) : w.heap.size ≤ gb124)); clear HB; have HB := n0_; have BK124 := n1_; have GW124 := n2_; have GE124 := n3_; clear n0_ n1_ n2_ n3_; clear hb hbox hg) | ((with_reducible refine gate_dst (N := 3) rfl ?_); refine box_event ?hg (N := 3) ?hd (cs := #[.int .i64 a1_0, .int .i64 a1_1]) (t := 31) ?hr ?_; (case hd => rfl); (case hg => rfl); (case hr => first | (go_simp; done) | (go_simp; rfl)); intro gb125 hg w6 hbox hb; have n0_ := Aside0.mk (blk_below (g := gb124) (o := .cells #[.int .i64 a0_0, .int .i64 a0_1] 31 (0, 0)) (by (with_reducible repeat (first | refine blk_drewN ?_ _ | refine blk_drew ?_ | refine blk_alloc ?_ _)); exact BK124.out) hb); have n1_ := Aside0.mk (below_step (by repeat (first | (with_reducible first | exact HB.out | apply below_alloc | apply pw_below_drewN | apply below_drew1 | refine below_set ?_ GE124.out) | exact HB.out)) hb); have n2_ := Aside0.mk (hbox); have n3_ := Aside0.mk ((by rw [hg]; exact (below_size (by repeat (first | (with_reducible first | exact HB.out | apply below_alloc | apply pw_below_drewN | apply below_drew1 | refine below_set ?_ GE124.out) | exact HB.out))) : w.heap.size ≤ gb125)); have n4_ := Aside0.mk ((by rw [hg]; exact (below_size (by repeat (first | (with_reducible first | exact HB.out | apply below_alloc | apply pw_below_drewN | apply below_drew1 | refine below_set ?_ GE124.out) | exact HB.out))) : w.heap.size ≤ gb125)); have n5_ := Aside0.mk ((by rw [hg]; exact Nat.ne_of_lt (blk_lt (g := gb124) (o := .cells #[.int .i64 a0_0, .int .i64 a0_1] 31 (0, 0)) (by (with_reducible repeat (first | refine blk_drewN ?_ _ | refine blk_drew ?_ | refine blk_alloc ?_ _)); exact BK124.out)) : gb124 ≠ gb125)); have n6_ := Aside0.mk ((by rw [hg]; exact Nat.ne_of_gt (blk_lt (g := gb124) (o := .cells #[.int .i64 a0_0, .int .i64 a0_1] 31 (0, 0)) (by (with_reducible repeat (first | refine blk_drewN ?_ _ | refine blk_drew ?_ | refine blk_alloc ?_ _)); exact BK124.out)) : gb125 ≠ gb124)); clear BK124; clear HB; have BK124 := n0_; have HB := n1_; have BK125 := n2_; have GW125 := n3_; have GE125 := n4_; have NB124_125 := n5_; have NB125_124 := n6_; clear n0_ n1_ n2_ n3_ n4_ n5_ n6_; clear hb hbox hg; have hnb7 := NB124_125.out; have hnc7 := NB125_124.out; have hcz8_0 : w6.cell? ⟨gb124, 0, none⟩ = some (.int .i64 a0_0) := (blk_cell BK124.out 0).trans rfl; have hcz8_1 : w6.cell? ⟨gb124, 1, none⟩ = some (.int .i64 a0_1) := (blk_cell BK124.out 1).trans rfl; have hfz8_0 := blk_frozen BK124.out 0; have hfz8_1 := blk_frozen BK124.out 1; have hcz9_0 : w6.cell? ⟨gb125, 0, none⟩ = some (.int .i64 a1_0) := (blk_cell BK125.out 0).trans rfl; have hcz9_1 : w6.cell? ⟨gb125, 1, none⟩ = some (.int .i64 a1_1) := (blk_cell BK125.out 1).trans rfl; have hfz9_0 := blk_frozen BK125.out 0; have hfz9_1 := blk_frozen BK125.out 1))
      go_ret
      exact ⟨by first | rfl | (simp [errW_none, errW_some] <;> rfl) | (simp [*, errW_none, errW_some] <;> rfl), by repeat (first | (with_reducible first | exact HB.out | apply below_alloc | apply pw_below_drewN | apply below_drew1 | refine below_set ?_ GE124.out | refine below_set ?_ GE125.out) | exact HB.out)⟩
    · rw [if_neg c4] at H
      have c4b0 : (a0_1 == a1_1) = false := beq_eq_false_iff_ne.mpr c4
      have c4b1 : (a0_1 != a1_1) = true := bne_iff_ne.mpr c4
      obtain rfl := Option.some.inj H
      go_enter Try.func12, Try.ntmps12
      go_wp2_with (first | ((with_reducible refine gate_dst (N := 2) rfl ?_); refine box_event ?hg (N := 2) ?hd (cs := #[.int .i64 a0_0, .int .i64 a0_1]) (t := 31) ?hr ?_; (case hd => rfl); (case hg => rfl); (case hr => first | (go_simp; done) | (go_simp; rfl)); intro gb124 hg w10 hbox hb; have n0_ := Aside0.mk (below_step (by repeat (first | (with_reducible first | exact HB.out | apply below_alloc | apply pw_below_drewN | apply below_drew1) | exact HB.out)) hb); have n1_ := Aside0.mk (hbox); have n2_ := Aside0.mk ((by rw [hg]; exact (below_size (by repeat (first | (with_reducible first | exact HB.out | apply below_alloc | apply pw_below_drewN | apply below_drew1) | exact HB.out))) : w.heap.size ≤ gb124)); have n3_ := Aside0.mk ((by rw [hg]; exact (below_size (by repeat (first | (with_reducible first | exact HB.out | apply below_alloc | apply pw_below_drewN | apply below_drew1) | exact HB.out))) : w.heap.size ≤ gb124)); clear HB; have HB := n0_; have BK124 := n1_; have GW124 := n2_; have GE124 := n3_; clear n0_ n1_ n2_ n3_; clear hb hbox hg) | ((with_reducible refine gate_dst (N := 3) rfl ?_); refine box_event ?hg (N := 3) ?hd (cs := #[.int .i64 a1_0, .int .i64 a1_1]) (t := 31) ?hr ?_; (case hd => rfl); (case hg => rfl); (case hr => first | (go_simp; done) | (go_simp; rfl)); intro gb125 hg w11 hbox hb; have n0_ := Aside0.mk (blk_below (g := gb124) (o := .cells #[.int .i64 a0_0, .int .i64 a0_1] 31 (0, 0)) (by (with_reducible repeat (first | refine blk_drewN ?_ _ | refine blk_drew ?_ | refine blk_alloc ?_ _)); exact BK124.out) hb); have n1_ := Aside0.mk (below_step (by repeat (first | (with_reducible first | exact HB.out | apply below_alloc | apply pw_below_drewN | apply below_drew1 | refine below_set ?_ GE124.out) | exact HB.out)) hb); have n2_ := Aside0.mk (hbox); have n3_ := Aside0.mk ((by rw [hg]; exact (below_size (by repeat (first | (with_reducible first | exact HB.out | apply below_alloc | apply pw_below_drewN | apply below_drew1 | refine below_set ?_ GE124.out) | exact HB.out))) : w.heap.size ≤ gb125)); have n4_ := Aside0.mk ((by rw [hg]; exact (below_size (by repeat (first | (with_reducible first | exact HB.out | apply below_alloc | apply pw_below_drewN | apply below_drew1 | refine below_set ?_ GE124.out) | exact HB.out))) : w.heap.size ≤ gb125)); have n5_ := Aside0.mk ((by rw [hg]; exact Nat.ne_of_lt (blk_lt (g := gb124) (o := .cells #[.int .i64 a0_0, .int .i64 a0_1] 31 (0, 0)) (by (with_reducible repeat (first | refine blk_drewN ?_ _ | refine blk_drew ?_ | refine blk_alloc ?_ _)); exact BK124.out)) : gb124 ≠ gb125)); have n6_ := Aside0.mk ((by rw [hg]; exact Nat.ne_of_gt (blk_lt (g := gb124) (o := .cells #[.int .i64 a0_0, .int .i64 a0_1] 31 (0, 0)) (by (with_reducible repeat (first | refine blk_drewN ?_ _ | refine blk_drew ?_ | refine blk_alloc ?_ _)); exact BK124.out)) : gb125 ≠ gb124)); clear BK124; clear HB; have BK124 := n0_; have HB := n1_; have BK125 := n2_; have GW125 := n3_; have GE125 := n4_; have NB124_125 := n5_; have NB125_124 := n6_; clear n0_ n1_ n2_ n3_ n4_ n5_ n6_; clear hb hbox hg; have hnb12 := NB124_125.out; have hnc12 := NB125_124.out; have hcz13_0 : w11.cell? ⟨gb124, 0, none⟩ = some (.int .i64 a0_0) := (blk_cell BK124.out 0).trans rfl; have hcz13_1 : w11.cell? ⟨gb124, 1, none⟩ = some (.int .i64 a0_1) := (blk_cell BK124.out 1).trans rfl; have hfz13_0 := blk_frozen BK124.out 0; have hfz13_1 := blk_frozen BK124.out 1; have hcz14_0 : w11.cell? ⟨gb125, 0, none⟩ = some (.int .i64 a1_0) := (blk_cell BK125.out 0).trans rfl; have hcz14_1 : w11.cell? ⟨gb125, 1, none⟩ = some (.int .i64 a1_1) := (blk_cell BK125.out 1).trans rfl; have hfz14_0 := blk_frozen BK125.out 0; have hfz14_1 := blk_frozen BK125.out 1))
      go_ret
      exact ⟨by first | rfl | (simp [errW_none, errW_some] <;> rfl) | (simp [*, errW_none, errW_some] <;> rfl), by repeat (first | (with_reducible first | exact HB.out | apply below_alloc | apply pw_below_drewN | apply below_drew1 | refine below_set ?_ GE124.out | refine below_set ?_ GE125.out) | exact HB.out)⟩
  · rw [if_neg c3] at H
    have c3b0 : (a0_0 == a1_0) = false := beq_eq_false_iff_ne.mpr c3
    have c3b1 : (a0_0 != a1_0) = true := bne_iff_ne.mpr c3
    obtain rfl := Option.some.inj H
    go_enter Try.func12, Try.ntmps12
    go_wp2_with (first | ((with_reducible refine gate_dst (N := 2) rfl ?_); refine box_event ?hg (N := 2) ?hd (cs := #[.int .i64 a0_0, .int .i64 a0_1]) (t := 31) ?hr ?_; (case hd => rfl); (case hg => rfl); (case hr => first | (go_simp; done) | (go_simp; rfl)); intro gb124 hg w15 hbox hb; have n0_ := Aside0.mk (below_step (by repeat (first | (with_reducible first | exact HB.out | apply below_alloc | apply pw_below_drewN | apply below_drew1) | exact HB.out)) hb); have n1_ := Aside0.mk (hbox); have n2_ := Aside0.mk ((by rw [hg]; exact (below_size (by repeat (first | (with_reducible first | exact HB.out | apply below_alloc | apply pw_below_drewN | apply below_drew1) | exact HB.out))) : w.heap.size ≤ gb124)); have n3_ := Aside0.mk ((by rw [hg]; exact (below_size (by repeat (first | (with_reducible first | exact HB.out | apply below_alloc | apply pw_below_drewN | apply below_drew1) | exact HB.out))) : w.heap.size ≤ gb124)); clear HB; have HB := n0_; have BK124 := n1_; have GW124 := n2_; have GE124 := n3_; clear n0_ n1_ n2_ n3_; clear hb hbox hg) | ((with_reducible refine gate_dst (N := 3) rfl ?_); refine box_event ?hg (N := 3) ?hd (cs := #[.int .i64 a1_0, .int .i64 a1_1]) (t := 31) ?hr ?_; (case hd => rfl); (case hg => rfl); (case hr => first | (go_simp; done) | (go_simp; rfl)); intro gb125 hg w16 hbox hb; have n0_ := Aside0.mk (blk_below (g := gb124) (o := .cells #[.int .i64 a0_0, .int .i64 a0_1] 31 (0, 0)) (by (with_reducible repeat (first | refine blk_drewN ?_ _ | refine blk_drew ?_ | refine blk_alloc ?_ _)); exact BK124.out) hb); have n1_ := Aside0.mk (below_step (by repeat (first | (with_reducible first | exact HB.out | apply below_alloc | apply pw_below_drewN | apply below_drew1 | refine below_set ?_ GE124.out) | exact HB.out)) hb); have n2_ := Aside0.mk (hbox); have n3_ := Aside0.mk ((by rw [hg]; exact (below_size (by repeat (first | (with_reducible first | exact HB.out | apply below_alloc | apply pw_below_drewN | apply below_drew1 | refine below_set ?_ GE124.out) | exact HB.out))) : w.heap.size ≤ gb125)); have n4_ := Aside0.mk ((by rw [hg]; exact (below_size (by repeat (first | (with_reducible first | exact HB.out | apply below_alloc | apply pw_below_drewN | apply below_drew1 | refine below_set ?_ GE124.out) | exact HB.out))) : w.heap.size ≤ gb125)); have n5_ := Aside0.mk ((by rw [hg]; exact Nat.ne_of_lt (blk_lt (g := gb124) (o := .cells #[.int .i64 a0_0, .int .i64 a0_1] 31 (0, 0)) (by (with_reducible repeat (first | refine blk_drewN ?_ _ | refine blk_drew ?_ | refine blk_alloc ?_ _)); exact BK124.out)) : gb124 ≠ gb125)); have n6_ := Aside0.mk ((by rw [hg]; exact Nat.ne_of_gt (blk_lt (g := gb124) (o := .cells #[.int .i64 a0_0, .int .i64 a0_1] 31 (0, 0)) (by (with_reducible repeat (first | refine blk_drewN ?_ _ | refine blk_drew ?_ | refine blk_alloc ?_ _)); exact BK124.out)) : gb125 ≠ gb124)); clear BK124; clear HB; have BK124 := n0_; have HB := n1_; have BK125 := n2_; have GW125 := n3_; have GE125 := n4_; have NB124_125 := n5_; have NB125_124 := n6_; clear n0_ n1_ n2_ n3_ n4_ n5_ n6_; clear hb hbox hg; have hnb17 := NB124_125.out; have hnc17 := NB125_124.out; have hcz18_0 : w16.cell? ⟨gb124, 0, none⟩ = some (.int .i64 a0_0) := (blk_cell BK124.out 0).trans rfl; have hcz18_1 : w16.cell? ⟨gb124, 1, none⟩ = some (.int .i64 a0_1) := (blk_cell BK124.out 1).trans rfl; have hfz18_0 := blk_frozen BK124.out 0; have hfz18_1 := blk_frozen BK124.out 1; have hcz19_0 : w16.cell? ⟨gb125, 0, none⟩ = some (.int .i64 a1_0) := (blk_cell BK125.out 0).trans rfl; have hcz19_1 : w16.cell? ⟨gb125, 1, none⟩ = some (.int .i64 a1_1) := (blk_cell BK125.out 1).trans rfl; have hfz19_0 := blk_frozen BK125.out 0; have hfz19_1 := blk_frozen BK125.out 1))
    go_ret
    exact ⟨by first | rfl | (simp [errW_none, errW_some] <;> rfl) | (simp [*, errW_none, errW_some] <;> rfl), by repeat (first | (with_reducible first | exact HB.out | apply below_alloc | apply pw_below_drewN | apply below_drew1 | refine below_set ?_ GE124.out | refine below_set ?_ GE125.out) | exact HB.out)⟩

end Go.Proofs.Ytehffdeiclepmaa.PFnExactJoin
