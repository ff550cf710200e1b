-- Written for this claim by a program of this session, which goes by the kit's print and takes contracts proved by hand.
import Derived.Test.YtcgiegkcmofhhabPFnExactMissingx0
import Derived.Test.YtcgiegkcmofhhabPFnExactMissingx6
import Derived.Test.YtcgiegkcmofhhabPFnExactMissingx7
namespace Go.Proofs.Ytcgiegkcmofhhab.PFnExactMissing
open Go.RowKit Go.Proofs.YtcgiegkcmofhhabW.PrintWords Go.Proofs.YtcgiegkcmofhhabW.PrintLast Go.Proofs.YtcgiegkcmofhhabW.PrintMore
attribute [local go_sem] max2_int min2_int max_two min_two max_three min_three max_four min_four   -- for this text's walks alone
set_option linter.unusedVariables false
set_option linter.unusedSimpArgs false

/-! ### spec_GoodLog: function 47 -/
def spec_GoodLog.l0 : Nat → List (S95) → List (S95) → Int → Int → Option (Bool)
 | 0, _, _, _, _ => none
 | k + 1, x0, x8, x9, x10 => if x10 < x9 then (if 0 ≤ x10 then (if x10 < (x8.length : Int) then ((spec_GoodChange.f k ((rd_T95 x8 x10).f0.f0) ((rd_T95 x8 x10).f0.f1) ((rd_T95 x8 x10).f1) ((rd_T95 x8 x10).f2) ((rd_T95 x8 x10).f3) ((rd_T95 x8 x10).f4.f0) ((rd_T95 x8 x10).f4.f1) ((rd_T95 x8 x10).f5) ((rd_T95 x8 x10).f6)).bind fun t180 => (if t180 = true then (if x10 > 0 then (if 0 ≤ (wrap64 (x10 - 1)) then (if (wrap64 (x10 - 1)) < (x0.length : Int) then ((spec_l4Cmp.f ((rd_T95 x0 (wrap64 (x10 - 1))).f0.f0) ((rd_T95 x0 (wrap64 (x10 - 1))).f0.f1) ((rd_T95 x8 x10).f0.f0) ((rd_T95 x8 x10).f0.f1)).bind fun t182 => (if t182 ≥ 0 then (some false) else (spec_GoodLog.l0 k x0 x8 x9 (wrap64 (x10 + 1))))) else (none)) else (none)) else (spec_GoodLog.l0 k x0 x8 x9 (wrap64 (x10 + 1)))) else (some false))) else (none)) else (none)) else (some true)
def spec_GoodLog.f (k : Nat) (l0 : List (S95)) : Option (Bool) := if (l0.length : Int) > 200 then (some false) else (spec_GoodLog.l0 k l0 l0 (l0.length : Int) 0)
theorem spec_GoodLog.mono_l : ∀ k, (∀ y0 y1 y2 y3, LeO (spec_GoodLog.l0 k y0 y1 y2 y3) (spec_GoodLog.l0 (k + 1) y0 y1 y2 y3))
 | 0 => fun _ _ _ _ r h => by simp [spec_GoodLog.l0] at h
 | k + 1 => by
  have ih0 := spec_GoodLog.mono_l k
  ·intro y0 y1 y2 y3
   unfold spec_GoodLog.l0
   repeat' first
   | (with_reducible exact ih0 _ _ _ _)
   | (with_reducible exact spec_GoodChange.mono _ _ _ _ _ _ _ _ _ _)
   | (with_reducible exact LeO.refl _)
   | (with_reducible exact LeO.none _)
   | (with_reducible refine LeO.ite ?_ ?_)
   | (with_reducible refine LeO.bind ?_ (fun _ => ?_))
   | exact ih0 _ _ _ _
   | exact spec_GoodChange.mono _ _ _ _ _ _ _ _ _ _
   | exact LeO.none _
   | refine LeO.ite ?_ ?_
   | refine LeO.bind ?_ (fun _ => ?_)
theorem spec_GoodLog.mono : ∀ a0 k, LeO (spec_GoodLog.f k a0) (spec_GoodLog.f (k + 1) a0) := by
 intro a0 k
 have ih0 := spec_GoodLog.mono_l k
 unfold spec_GoodLog.f
 repeat' first
   | (with_reducible exact ih0 _ _ _ _)
   | (with_reducible exact spec_GoodChange.mono _ _ _ _ _ _ _ _ _ _)
   | (with_reducible exact LeO.refl _)
   | (with_reducible exact LeO.none _)
   | (with_reducible refine LeO.ite ?_ ?_)
   | (with_reducible refine LeO.bind ?_ (fun _ => ?_))
   | exact ih0 _ _ _ _
   | exact spec_GoodChange.mono _ _ _ _ _ _ _ _ _ _
   | exact LeO.none _
   | refine LeO.ite ?_ ?_
   | refine LeO.bind ?_ (fun _ => ?_)
def spec_GoodLog.T6 : Bool × List (List Nat × List Nat) := (true, [([], []), ([0], [0]), ([1], [1]), ([2, 1], [2]), ([3], [3]), ([4, 3], [3, 4]), ([5, 3, 3], [3, 5]), ([6], [6]), ([6], [6]), ([8, 6], [6, 8]), ([7, 9, 6], [6, 7, 9]), ([10, 6], [6, 10]), ([11, 6], [6, 11]), ([6], [6]), ([13, 6], [6, 13]), ([12, 14, 6, 6], [6, 12, 14]), ([15, 6], [6, 15]), ([6, 16, 3], [3, 6, 16]), ([3, 17], [3, 17])])
def spec_GoodLog.B6 : List Nat := [0, 1, 3, 7, 15, 31, 63, 127, 127, 383, 1023, 2047, 4095, 127, 8319, 32767, 65535, 131071, 262143]
theorem spec_GoodLog.tab6 : rtab .any (opsOf Try.f47 6) = spec_GoodLog.T6 := by kernel_rfl
theorem spec_GoodLog.bits6 : waitsOk spec_GoodLog.T6.2 spec_GoodLog.B6 = true := by kernel_rfl
set_option maxHeartbeats 8000000 in
set_option maxRecDepth 100000 in
theorem spec_GoodLog.calls (k : Nat) (A0 : Option Addr) (c0 : Nat) (l0 : List (S95)) (r : Bool) (w : World) (hr0 : Kd.C k95 w A0 l0.length l0) (hc0 : l0.length ≤ c0) (h : spec_GoodLog.f k l0 = some r) :
  Calls Try.prog 47 #[.slice A0 l0.length c0] w fun e w' => e = .returned (.bool r) ∧ Below w.heap.size w w' := by
 have hu95 := Try.underlying95
 have hu25 := Try.underlying25
 have HR0 := Aside0.mk hr0
 have HC0 := Aside0.mk hc0
 clear hr0 hc0
 have HB := Aside0.mk (Below.refl w.heap.size w)
 have H : (if (l0.length : Int) > 200 then (some false) else (spec_GoodLog.l0 k l0 l0 (l0.length : Int) 0)) = some r := h
 clear h
 by_cases c2 : (l0.length : Int) > 200
 ·rw [if_pos c2] at H
  have c2b0 : decide (200 < (l0.length : Int)) = true := decide_eq_true c2
  have c2b1 : decide (200 < l0.length) = true := decide_eq_true (by omega)
  clear c2
  obtain rfl := Option.some.inj H
  go_enter Try.func47, Try.ntmps47
  go_wp2
  go_ret
  exact ⟨by first | rfl | (simp [errW_none, errW_some] <;> rfl) | (simp [*, errW_none, errW_some] <;> rfl), by repeat (first | (with_reducible first | exact HB.out | apply pkA | apply pkN | apply pkD) | exact HB.out)⟩
 ·rw [if_neg c2] at H
  have c2b0 : decide (200 < (l0.length : Int)) = false := decide_eq_false c2
  have c2b1 : decide (200 < l0.length) = false := decide_eq_false (by omega)
  clear c2
  have H' := Aside0.mk H
  clear H
  go_enter Try.func47, Try.ntmps47
  go_wp2
  go_loopg [10] k (fun kq v10 w' => ∃ (x10_1 : Int), v10 = .int .i64 x10_1 ∧ Aside0 (spec_GoodLog.l0 kq l0 l0 (l0.length : Int) x10_1 = some r) ∧ Aside0 (kq ≤ k) ∧ Aside0 (Below w.heap.size w w'))
  case atStart => exact ⟨(0), (by first | rfl | (simp; done) | (simp [pw_ne_nil, pw_eq_nil]; done) | (simp [*]; done)), H', ⟨Nat.le_refl _⟩, ⟨by repeat (first | (with_reducible first | exact HB.out | apply pkA | apply pkN | apply pkD) | exact HB.out)⟩⟩
  case round =>
   clear H'
   try clear c2; try clear c2b0; try clear c2b1; try clear p2
   obtain ⟨x10_1, rfl, HA, HK1, HB⟩ := hrel
   cases gk with
   | zero => exact absurd HA.out (by simp [spec_GoodLog.l0])
   | succ k1 =>
    have H := HA.out
    clear HA
    simp only [spec_GoodLog.l0] at H
    by_cases c3 : x10_1 < (l0.length : Int)
    ·rw [if_pos c3] at H
     have c3b0 : decide (x10_1 < (l0.length : Int)) = true := decide_eq_true c3
     clear c3
     by_cases c4 : 0 ≤ x10_1
     ·rw [if_pos c4] at H
      have c4b0 : decide (0 ≤ x10_1) = true := decide_eq_true c4
      clear c4
      by_cases c5 : x10_1 < (l0.length : Int)
      ·rw [if_pos c5] at H
       have c5b0 : decide (x10_1 < (l0.length : Int)) = true := decide_eq_true c5
       clear c5
       replace H := Option.bind_eq_some_iff.mp H
       obtain ⟨t180, A60, H⟩ := H
       try dsimp only at H
       have A6 := Aside0.mk A60
       clear A60
       by_cases c7 : t180 = true
       ·subst c7
        rw [if_pos rfl] at H
        by_cases c8 : x10_1 > 0
        ·rw [if_pos c8] at H
         have c8b0 : decide (0 < x10_1) = true := decide_eq_true c8
         clear c8
         obtain ⟨ji9, hji9⟩ : ∃ j_ : Int, (wrap64 (x10_1 - 1)) = j_ := ⟨_, rfl⟩
         replace H : (if 0 ≤ (ji9) then (if (ji9) < (l0.length : Int) then ((spec_l4Cmp.f ((rd_T95 l0 (ji9)).f0.f0) ((rd_T95 l0 (ji9)).f0.f1) ((rd_T95 l0 x10_1).f0.f0) ((rd_T95 l0 x10_1).f0.f1)).bind fun t182 => (if t182 ≥ 0 then (some false) else (spec_GoodLog.l0 k1 l0 l0 (l0.length : Int) (wrap64 (x10_1 + 1))))) else (none)) else (none)) = some r := by first | (rw [hji9] at H; exact H) | (simp only [hji9] at H ⊢; exact H)
         (try rw [hji9] at A6)
         have hji9w : (IntKind.i64.wrap (x10_1 - 1)) = ji9 := (i64_w _).trans hji9
         by_cases c10 : 0 ≤ (ji9)
         ·rw [if_pos c10] at H
          have c10b0 : decide (0 ≤ (ji9)) = true := decide_eq_true c10
          clear c10
          by_cases c11 : (ji9) < (l0.length : Int)
          ·rw [if_pos c11] at H
           have c11b0 : decide ((ji9) < (l0.length : Int)) = true := decide_eq_true c11
           clear c11
           replace H := Option.bind_eq_some_iff.mp H
           obtain ⟨t182, A120, H⟩ := H
           try dsimp only at H
           have A12 := Aside0.mk A120
           clear A120
           by_cases c13 : t182 ≥ 0
           ·rw [if_pos c13] at H
            have c13b0 : decide (0 ≤ t182) = true := decide_eq_true c13
            clear c13
            obtain rfl := Option.some.inj H
            have p178 : 0 ≤ (x10_1 : Int) := of_decide_eq_true (by first | (with_reducible assumption) | assumption)
            have q178 : x10_1 < (l0.length : Int) := of_decide_eq_true (by first | (with_reducible assumption) | assumption)
            obtain ⟨ad178, e178, hx178_0, hx178_1, hx178_2, hx178_3, hx178_4, hx178_5, hx178_6, hx178_7, hx178_8⟩ := at_T95 HR0.out x10_1 p178 q178
            cases e178
            obtain ⟨hx178_0, hx178_1, hx178_2, hx178_3, hx178_4, hx178_5, hx178_6, hx178_7, hx178_8⟩ := pk_up9 HB.out hx178_0 hx178_1 hx178_2 hx178_3 hx178_4 hx178_5 hx178_6 hx178_7 hx178_8
            replace p178 := eq_true p178
            replace q178 := eq_true q178
            try go_wp2_with (first | ((with_reducible refine gate_dst (N := 4) rfl ?_); refine box_event ?hg (N := 4) ?hd (cs := #[.int .i64 0, .int .i64 0, .int .i64 0, .int .i64 0, .int .i64 0, .string (⟨#[]⟩ : ByteArray), .string (⟨#[]⟩ : ByteArray), .string (⟨#[]⟩ : ByteArray), .string (⟨#[]⟩ : ByteArray)]) (t := 95) ?hr ?_; (case hd => rfl); (case hg => rfl); (case hr => first | (go_simp; done) | (go_simp; rfl)); intro gb179 hg w14 hbox hb; have n0_ := Aside0.mk (below_step (by repeat (first | (with_reducible first | exact HB.out | apply pkA | apply pkN | apply pkD) | exact HB.out)) hb); have n1_ := Aside0.mk (hbox); have n2_ := Aside0.mk ((by rw [hg]; exact (below_size (by repeat (first | (with_reducible first | exact HB.out | apply pkA | apply pkN | apply pkD) | exact HB.out))) : w.heap.size ≤ gb179)); have n3_ := Aside0.mk ((by rw [hg]; exact (below_size (by repeat (first | (with_reducible first | exact HB.out | apply pkA | apply pkN | apply pkD) | exact HB.out))) : w.heap.size ≤ gb179)); clear HB; have HB := n0_; have BK179 := n1_; have GW179 := n2_; have GE179 := n3_; clear n0_ n1_ n2_ n3_; clear hb hbox hg; obtain ⟨hcz15_0, hcz15_1, hcz15_2, hcz15_3, hcz15_4, hcz15_5, hcz15_6, hcz15_7, hcz15_8⟩ := pk_cells9 BK179.out; have hfz15_0 := blk_frozen BK179.out))
            have n0_ : Aside0 ((((((((((w14.setCell ⟨gb179, 0, none⟩ (.int .i64 ((rd_T95 l0 x10_1).f0.f0))).setCell ⟨gb179, 1, none⟩ (.int .i64 ((rd_T95 l0 x10_1).f0.f1))).setCell ⟨gb179, 2, none⟩ (.int .i64 ((rd_T95 l0 x10_1).f1))).setCell ⟨gb179, 3, none⟩ (.int .i64 ((rd_T95 l0 x10_1).f2))).setCell ⟨gb179, 4, none⟩ (.int .i64 ((rd_T95 l0 x10_1).f3))).setCell ⟨gb179, 5, none⟩ (.string ((rd_T95 l0 x10_1).f4.f0))).setCell ⟨gb179, 6, none⟩ (.string ((rd_T95 l0 x10_1).f4.f1))).setCell ⟨gb179, 7, none⟩ (.string ((rd_T95 l0 x10_1).f5))).setCell ⟨gb179, 8, none⟩ (.string ((rd_T95 l0 x10_1).f6))).heap[gb179]? = some (.cells #[.int .i64 ((rd_T95 l0 x10_1).f0.f0), .int .i64 ((rd_T95 l0 x10_1).f0.f1), .int .i64 ((rd_T95 l0 x10_1).f1), .int .i64 ((rd_T95 l0 x10_1).f2), .int .i64 ((rd_T95 l0 x10_1).f3), .string ((rd_T95 l0 x10_1).f4.f0), .string ((rd_T95 l0 x10_1).f4.f1), .string ((rd_T95 l0 x10_1).f5), .string ((rd_T95 l0 x10_1).f6)] 95 (0, 0))) := ⟨by apply pk_puts9; (with_reducible repeat (first | refine pkd ?_ _ | refine pke ?_ | refine pkf ?_ _)); exact BK179.out⟩
            have n1_ : Aside0 (Below w.heap.size w (((((((((w14.setCell ⟨gb179, 0, none⟩ (.int .i64 ((rd_T95 l0 x10_1).f0.f0))).setCell ⟨gb179, 1, none⟩ (.int .i64 ((rd_T95 l0 x10_1).f0.f1))).setCell ⟨gb179, 2, none⟩ (.int .i64 ((rd_T95 l0 x10_1).f1))).setCell ⟨gb179, 3, none⟩ (.int .i64 ((rd_T95 l0 x10_1).f2))).setCell ⟨gb179, 4, none⟩ (.int .i64 ((rd_T95 l0 x10_1).f3))).setCell ⟨gb179, 5, none⟩ (.string ((rd_T95 l0 x10_1).f4.f0))).setCell ⟨gb179, 6, none⟩ (.string ((rd_T95 l0 x10_1).f4.f1))).setCell ⟨gb179, 7, none⟩ (.string ((rd_T95 l0 x10_1).f5))).setCell ⟨gb179, 8, none⟩ (.string ((rd_T95 l0 x10_1).f6)))) := ⟨by repeat (first | (with_reducible first | exact HB.out | apply pkA | apply pkN | apply pkD | refine below_set ?_ GE179.out) | exact HB.out)⟩
            (try clear BK179)
            (try clear HB)
            generalize (((((((((w14.setCell ⟨gb179, 0, none⟩ (.int .i64 ((rd_T95 l0 x10_1).f0.f0))).setCell ⟨gb179, 1, none⟩ (.int .i64 ((rd_T95 l0 x10_1).f0.f1))).setCell ⟨gb179, 2, none⟩ (.int .i64 ((rd_T95 l0 x10_1).f1))).setCell ⟨gb179, 3, none⟩ (.int .i64 ((rd_T95 l0 x10_1).f2))).setCell ⟨gb179, 4, none⟩ (.int .i64 ((rd_T95 l0 x10_1).f3))).setCell ⟨gb179, 5, none⟩ (.string ((rd_T95 l0 x10_1).f4.f0))).setCell ⟨gb179, 6, none⟩ (.string ((rd_T95 l0 x10_1).f4.f1))).setCell ⟨gb179, 7, none⟩ (.string ((rd_T95 l0 x10_1).f5))).setCell ⟨gb179, 8, none⟩ (.string ((rd_T95 l0 x10_1).f6))) = w16 at n0_ n1_ ⊢
            have BK179 := n0_
            have HB := n1_
            clear n0_ n1_
            have n0_ := Aside0.mk (pke BK179.out)
            have n1_ := Aside0.mk (pkD HB.out)
            clear BK179
            clear HB
            have BK179 := n0_
            have HB := n1_
            clear n0_ n1_
            have p181 : 0 ≤ ((ji9) : Int) := of_decide_eq_true (by first | (with_reducible assumption) | assumption)
            have q181 : (ji9) < (l0.length : Int) := of_decide_eq_true (by first | (with_reducible assumption) | assumption)
            obtain ⟨ad181, e181, hx181_0, hx181_1, hx181_2, hx181_3, hx181_4, hx181_5, hx181_6, hx181_7, hx181_8⟩ := at_T95 HR0.out (ji9) p181 q181
            have hw181_8 := hx181_8
            have hw181_7 := hx181_7
            have hw181_6 := hx181_6
            have hw181_5 := hx181_5
            have hw181_4 := hx181_4
            have hw181_3 := hx181_3
            have hw181_2 := hx181_2
            have hw181_1 := hx181_1
            have hw181_0 := hx181_0
            obtain rfl : ad178 = ad181 := (by injection e181)
            obtain ⟨hx181_0, hx181_1, hx181_2, hx181_3, hx181_4, hx181_5, hx181_6, hx181_7, hx181_8⟩ := pk_up9 HB.out hx181_0 hx181_1 hx181_2 hx181_3 hx181_4 hx181_5 hx181_6 hx181_7 hx181_8
            replace p181 := eq_true p181
            replace q181 := eq_true q181
            refine start_ (n := 19) (S := fun w' => w'.cell? ⟨gb179, 0, none⟩ = some (.int .i64 ((rd_T95 l0 x10_1).f0.f0)) ∧ w'.cell? ⟨gb179, 1, none⟩ = some (.int .i64 ((rd_T95 l0 x10_1).f0.f1)) ∧ w'.cell? ⟨gb179, 2, none⟩ = some (.int .i64 ((rd_T95 l0 x10_1).f1)) ∧ w'.cell? ⟨gb179, 3, none⟩ = some (.int .i64 ((rd_T95 l0 x10_1).f2)) ∧ w'.cell? ⟨gb179, 4, none⟩ = some (.int .i64 ((rd_T95 l0 x10_1).f3)) ∧ w'.cell? ⟨gb179, 5, none⟩ = some (.string ((rd_T95 l0 x10_1).f4.f0)) ∧ w'.cell? ⟨gb179, 6, none⟩ = some (.string ((rd_T95 l0 x10_1).f4.f1)) ∧ w'.cell? ⟨gb179, 7, none⟩ = some (.string ((rd_T95 l0 x10_1).f5)) ∧ w'.cell? ⟨gb179, 8, none⟩ = some (.string ((rd_T95 l0 x10_1).f6)) ∧ w'.cell? (ad178.add (((ji9)).toNat * 9)) = some (.int .i64 ((rd_T95 l0 (ji9)).f0.f0)) ∧ w'.cell? ⟨(ad178.add (((ji9)).toNat * 9)).block, (ad178.add (((ji9)).toNat * 9)).off + 1, none⟩ = some (.int .i64 ((rd_T95 l0 (ji9)).f0.f1)) ∧ w'.cell? ⟨(ad178.add (((ji9)).toNat * 9)).block, (ad178.add (((ji9)).toNat * 9)).off + 2, none⟩ = some (.int .i64 ((rd_T95 l0 (ji9)).f1)) ∧ w'.cell? ⟨(ad178.add (((ji9)).toNat * 9)).block, (ad178.add (((ji9)).toNat * 9)).off + 3, none⟩ = some (.int .i64 ((rd_T95 l0 (ji9)).f2)) ∧ w'.cell? ⟨(ad178.add (((ji9)).toNat * 9)).block, (ad178.add (((ji9)).toNat * 9)).off + 4, none⟩ = some (.int .i64 ((rd_T95 l0 (ji9)).f3)) ∧ w'.cell? ⟨(ad178.add (((ji9)).toNat * 9)).block, (ad178.add (((ji9)).toNat * 9)).off + 5, none⟩ = some (.string ((rd_T95 l0 (ji9)).f4.f0)) ∧ w'.cell? ⟨(ad178.add (((ji9)).toNat * 9)).block, (ad178.add (((ji9)).toNat * 9)).off + 6, none⟩ = some (.string ((rd_T95 l0 (ji9)).f4.f1)) ∧ w'.cell? ⟨(ad178.add (((ji9)).toNat * 9)).block, (ad178.add (((ji9)).toNat * 9)).off + 7, none⟩ = some (.string ((rd_T95 l0 (ji9)).f5)) ∧ w'.cell? ⟨(ad178.add (((ji9)).toNat * 9)).block, (ad178.add (((ji9)).toNat * 9)).off + 8, none⟩ = some (.string ((rd_T95 l0 (ji9)).f6))) (ds := []) pkb19_0 (by kernel_rfl) rfl rfl ⟨(blk_cell BK179.out 0).trans rfl, (blk_cell BK179.out 1).trans rfl, (blk_cell BK179.out 2).trans rfl, (blk_cell BK179.out 3).trans rfl, (blk_cell BK179.out 4).trans rfl, (blk_cell BK179.out 5).trans rfl, (blk_cell BK179.out 6).trans rfl, (blk_cell BK179.out 7).trans rfl, (blk_cell BK179.out 8).trans rfl, ((HB.out.cell (World.block_lt_of_cell? w _ hw181_0)).trans hw181_0), ((HB.out.cell (World.block_lt_of_cell? w _ hw181_1)).trans hw181_1), ((HB.out.cell (World.block_lt_of_cell? w _ hw181_2)).trans hw181_2), ((HB.out.cell (World.block_lt_of_cell? w _ hw181_3)).trans hw181_3), ((HB.out.cell (World.block_lt_of_cell? w _ hw181_4)).trans hw181_4), ((HB.out.cell (World.block_lt_of_cell? w _ hw181_5)).trans hw181_5), ((HB.out.cell (World.block_lt_of_cell? w _ hw181_6)).trans hw181_6), ((HB.out.cell (World.block_lt_of_cell? w _ hw181_7)).trans hw181_7), ((HB.out.cell (World.block_lt_of_cell? w _ hw181_8)).trans hw181_8)⟩ (fun hHeld => ?_); refine with_tabW spec_GoodLog.tab6 spec_GoodLog.bits6 (fun HT_ HW_ => ?_)
            generalize w16.drew = w17 at BK179 HB hx181_0 hx181_1 hx181_2 hx181_3 hx181_4 hx181_5 hx181_6 hx181_7 hx181_8 hHeld ⊢
            refine take_ (i := 0) (N := some 15) (v := ?_) (a' := ?_) pkb19_1 rfl rfl (take_ofW HT_.out HW_.out (by kernel_rfl)) (fun _ _ _ h => h) (Or.inl ⟨by rfl, ?_⟩) hHeld ?_ ?_; rotate_left; (rintro w' ⟨s0, s1, s2, s3, s4, s5, s6, s7, s8, s9, s10, s11, s12, s13, s14, s15, s16, s17⟩; go_simp; with_reducible rfl); rotate_left; (simp only [Act.put, pk1, pk2, pk3, i64_w, i32_w]; rfl)
            refine one_ (i := 1) (N := some 16) pkb19_2 rfl rfl (one_of HT_.out (by kernel_rfl)) (by decide) (fun K hK => ?_)
            refine goes_ Try.func92 (by kernel_rfl) rfl #[.agg #[.int .i64 ((rd_T95 l0 x10_1).f0.f0), .int .i64 ((rd_T95 l0 x10_1).f0.f1), .int .i64 ((rd_T95 l0 x10_1).f1), .int .i64 ((rd_T95 l0 x10_1).f2), .int .i64 ((rd_T95 l0 x10_1).f3), .string ((rd_T95 l0 x10_1).f4.f0), .string ((rd_T95 l0 x10_1).f4.f1), .string ((rd_T95 l0 x10_1).f5), .string ((rd_T95 l0 x10_1).f6)]] (by rfl) rfl rfl (by (try simp only [List.map_toArray, List.map_cons, List.map_nil]); first | done | rfl | (simp only [List.length_drop, List.length_take]; rfl)) ?_
            with_reducible refine (spec_GoodChange.calls k1 ((rd_T95 l0 x10_1).f0.f0) ((rd_T95 l0 x10_1).f0.f1) ((rd_T95 l0 x10_1).f1) ((rd_T95 l0 x10_1).f2) ((rd_T95 l0 x10_1).f3) ((rd_T95 l0 x10_1).f4.f0) ((rd_T95 l0 x10_1).f4.f1) ((rd_T95 l0 x10_1).f5) ((rd_T95 l0 x10_1).f6) true _ A6.out).mono ?_
            rintro e w18 ⟨rfl, hb⟩
            refine ⟨_, rfl, ?_⟩
            have n0_ := Aside0.mk (blk_below (g := gb179) (o := .cells #[.int .i64 ((rd_T95 l0 x10_1).f0.f0), .int .i64 ((rd_T95 l0 x10_1).f0.f1), .int .i64 ((rd_T95 l0 x10_1).f1), .int .i64 ((rd_T95 l0 x10_1).f2), .int .i64 ((rd_T95 l0 x10_1).f3), .string ((rd_T95 l0 x10_1).f4.f0), .string ((rd_T95 l0 x10_1).f4.f1), .string ((rd_T95 l0 x10_1).f5), .string ((rd_T95 l0 x10_1).f6)] 95 (0, 0)) (by (with_reducible repeat (first | refine pkd ?_ _ | refine pke ?_ | refine pkf ?_ _)); exact BK179.out) hb)
            have n1_ := Aside0.mk (below_step (by repeat (first | (with_reducible first | exact HB.out | apply pkA | apply pkN | apply pkD | refine below_set ?_ GE179.out) | exact HB.out)) hb)
            clear BK179
            clear HB
            have BK179 := n0_
            have HB := n1_
            clear n0_ n1_
            (try clear hb)
            (try clear hb2)
            (try clear hk)
            (try clear hi)
            refine hK.out _ _ ⟨(blk_cell BK179.out 0).trans rfl, (blk_cell BK179.out 1).trans rfl, (blk_cell BK179.out 2).trans rfl, (blk_cell BK179.out 3).trans rfl, (blk_cell BK179.out 4).trans rfl, (blk_cell BK179.out 5).trans rfl, (blk_cell BK179.out 6).trans rfl, (blk_cell BK179.out 7).trans rfl, (blk_cell BK179.out 8).trans rfl, ((HB.out.cell (World.block_lt_of_cell? w _ hw181_0)).trans hw181_0), ((HB.out.cell (World.block_lt_of_cell? w _ hw181_1)).trans hw181_1), ((HB.out.cell (World.block_lt_of_cell? w _ hw181_2)).trans hw181_2), ((HB.out.cell (World.block_lt_of_cell? w _ hw181_3)).trans hw181_3), ((HB.out.cell (World.block_lt_of_cell? w _ hw181_4)).trans hw181_4), ((HB.out.cell (World.block_lt_of_cell? w _ hw181_5)).trans hw181_5), ((HB.out.cell (World.block_lt_of_cell? w _ hw181_6)).trans hw181_6), ((HB.out.cell (World.block_lt_of_cell? w _ hw181_7)).trans hw181_7), ((HB.out.cell (World.block_lt_of_cell? w _ hw181_8)).trans hw181_8)⟩ (fun hHeld => ?_)
            clear hK K
            refine norm_ (a' := ?_) ?_ ?_
            rotate_left
            ·show Act.put _ (some 16) _ = _
             simp only [Act.put, pk1, pk2, pk3, i64_w, i32_w]
             rfl
            refine pure_ (i := 2) (N := some 17) (v := ?_) (a' := ?_) pkb19_3 rfl rfl (any_of HT_.out (by kernel_rfl)) (fun _ _ _ h => h) (Or.inl ⟨by rfl, ?_⟩) ?_ ?_; rotate_left; (intro w'; go_simp; with_reducible rfl); rotate_left; (simp only [Act.put, pk1, pk2, pk3, i64_w, i32_w]; rfl)
            refine pure_ (i := 3) (N := some 18) (v := ?_) (a' := ?_) pkb19_4 rfl rfl (any_of HT_.out (by kernel_rfl)) (fun _ _ _ h => h) (Or.inl ⟨by rfl, ?_⟩) ?_ ?_; rotate_left; (intro w'; go_simp; with_reducible rfl); rotate_left; (simp only [Act.put, pk1, pk2, pk3, i64_w, i32_w]; rfl)
            refine pure_ (i := 4) (N := some 19) (v := ?_) (a' := ?_) pkb19_5 rfl rfl (any_of HT_.out (by kernel_rfl)) (fun _ _ _ h => h) (Or.inl ⟨by rfl, ?_⟩) ?_ ?_; rotate_left; (intro w'; go_simp; with_reducible rfl); rotate_left; (simp only [Act.put, pk1, pk2, pk3, i64_w, i32_w]; rfl)
            refine pure_ (i := 5) (N := some 20) (v := ?_) (a' := ?_) pkb19_6 rfl rfl (any_of HT_.out (by kernel_rfl)) (fun _ _ _ h => h) (Or.inl ⟨by rfl, ?_⟩) ?_ ?_; rotate_left; (intro w'; go_simp; with_reducible rfl); rotate_left; (simp only [Act.put, pk1, pk2, pk3, i64_w, i32_w]; rfl)
            refine pure_ (i := 6) (N := some 21) (v := ?_) (a' := ?_) pkb19_7 rfl rfl (any_of HT_.out (by kernel_rfl)) (fun _ _ _ h => h) (Or.inl ⟨by rfl, ?_⟩) ?_ ?_; rotate_left; (intro w'; go_simp; with_reducible rfl); rotate_left; (simp only [Act.put, pk1, pk2, pk3, i64_w, i32_w]; rfl)
            refine pure_ (i := 7) (N := some 22) (v := ?_) (a' := ?_) pkb19_8 rfl rfl (any_of HT_.out (by kernel_rfl)) (fun _ _ _ h => h) (Or.inl ⟨by rfl, ?_⟩) ?_ ?_; rotate_left; (intro w'; go_simp; with_reducible rfl); rotate_left; (simp only [Act.put, pk1, pk2, pk3, i64_w, i32_w]; rfl)
            refine pure_ (i := 8) (N := some 23) (v := ?_) (a' := ?_) pkb19_9 rfl rfl (any_of HT_.out (by kernel_rfl)) (fun _ _ _ h => h) (Or.inl ⟨by rfl, ?_⟩) ?_ ?_; rotate_left; (intro w'; go_simp; with_reducible rfl); rotate_left; (simp only [Act.put, pk1, pk2, pk3, i64_w, i32_w]; rfl)
            refine pure_ (i := 9) (N := some 24) (v := ?_) (a' := ?_) pkb19_10 rfl rfl (any_of HT_.out (by kernel_rfl)) (fun _ _ _ h => h) (Or.inl ⟨by rfl, ?_⟩) ?_ ?_; rotate_left; (intro w'; go_simp; with_reducible rfl); rotate_left; (simp only [Act.put, pk1, pk2, pk3, i64_w, i32_w]; rfl)
            refine pure_ (i := 10) (N := some 25) (v := ?_) (a' := ?_) pkb19_11 rfl rfl (any_of HT_.out (by kernel_rfl)) (fun _ _ _ h => h) (Or.inl ⟨by rfl, ?_⟩) ?_ ?_; rotate_left; (intro w'; go_simp; with_reducible rfl); rotate_left; (simp only [Act.put, pk1, pk2, pk3, i64_w, i32_w]; rfl)
            refine pure_ (i := 11) (N := some 26) (v := ?_) (a' := ?_) pkb19_12 rfl rfl (any_of HT_.out (by kernel_rfl)) (fun _ _ _ h => h) (Or.inl ⟨by rfl, ?_⟩) ?_ ?_; rotate_left; (intro w'; go_simp; with_reducible rfl); rotate_left; (simp only [Act.put, pk1, pk2, pk3, i64_w, i32_w]; rfl)
            refine pure_ (i := 13) (N := some 28) (v := ?_) (a' := ?_) #[true, true, true, true, true, true, true, true, true, true, true, true, false, true, false, false, false, false, false] rfl rfl (any_of HT_.out (by kernel_rfl)) (fun _ _ _ h => h) (Or.inl ⟨by rfl, ?_⟩) ?_ ?_; rotate_left; (intro w'; go_simp; with_reducible rfl); rotate_left; (simp only [Act.put, pk1, pk2, pk3, i64_w, i32_w]; rfl)
            refine take_ (i := 12) (N := some 27) (v := ?_) (a' := ?_) pkb19_14 rfl rfl (take_ofW HT_.out HW_.out (by kernel_rfl)) (fun _ _ _ h => h) (Or.inl ⟨by rfl, ?_⟩) hHeld ?_ ?_; rotate_left; (rintro w' ⟨s0, s1, s2, s3, s4, s5, s6, s7, s8, s9, s10, s11, s12, s13, s14, s15, s16, s17⟩; go_simp; with_reducible rfl); rotate_left; (simp only [Act.put, pk1, pk2, pk3, i64_w, i32_w]; rfl)
            refine take_ (i := 14) (N := some 29) (v := ?_) (a' := ?_) pkb19_15 rfl rfl (take_ofW HT_.out HW_.out (by kernel_rfl)) (fun _ _ _ h => h) (Or.inl ⟨by rfl, ?_⟩) hHeld ?_ ?_; rotate_left; (rintro w' ⟨s0, s1, s2, s3, s4, s5, s6, s7, s8, s9, s10, s11, s12, s13, s14, s15, s16, s17⟩; go_simp; with_reducible rfl); rotate_left; (simp only [Act.put, pk1, pk2, pk3, i64_w, i32_w]; rfl)
            refine one_ (i := 15) (N := some 30) pkb19_16 rfl rfl (one_of HT_.out (by kernel_rfl)) (by decide) (fun K hK => ?_)
            refine goes_ Try.func93 (by kernel_rfl) rfl #[.agg #[.int .i64 ((rd_T95 l0 (ji9)).f0.f0), .int .i64 ((rd_T95 l0 (ji9)).f0.f1)], .agg #[.int .i64 ((rd_T95 l0 x10_1).f0.f0), .int .i64 ((rd_T95 l0 x10_1).f0.f1)]] (by rfl) rfl rfl (by (try simp only [List.map_toArray, List.map_cons, List.map_nil]); first | done | (simp only [hji9]; rfl) | rfl | (simp only [List.length_drop, List.length_take]; rfl)) ?_
            with_reducible refine (spec_l4Cmp.calls ((rd_T95 l0 (ji9)).f0.f0) ((rd_T95 l0 (ji9)).f0.f1) ((rd_T95 l0 x10_1).f0.f0) ((rd_T95 l0 x10_1).f0.f1) t182 _ A12.out).mono ?_
            rintro e w19 ⟨rfl, hb⟩
            refine ⟨_, rfl, ?_⟩
            have n0_ := Aside0.mk (blk_below (g := gb179) (o := .cells #[.int .i64 ((rd_T95 l0 x10_1).f0.f0), .int .i64 ((rd_T95 l0 x10_1).f0.f1), .int .i64 ((rd_T95 l0 x10_1).f1), .int .i64 ((rd_T95 l0 x10_1).f2), .int .i64 ((rd_T95 l0 x10_1).f3), .string ((rd_T95 l0 x10_1).f4.f0), .string ((rd_T95 l0 x10_1).f4.f1), .string ((rd_T95 l0 x10_1).f5), .string ((rd_T95 l0 x10_1).f6)] 95 (0, 0)) (by (with_reducible repeat (first | refine pkd ?_ _ | refine pke ?_ | refine pkf ?_ _)); exact BK179.out) hb)
            have n1_ := Aside0.mk (below_step (by repeat (first | (with_reducible first | exact HB.out | apply pkA | apply pkN | apply pkD | refine below_set ?_ GE179.out) | exact HB.out)) hb)
            clear BK179
            clear HB
            have BK179 := n0_
            have HB := n1_
            clear n0_ n1_
            (try clear hb)
            (try clear hb2)
            (try clear hk)
            (try clear hi)
            refine hK.out _ _ ⟨(blk_cell BK179.out 0).trans rfl, (blk_cell BK179.out 1).trans rfl, (blk_cell BK179.out 2).trans rfl, (blk_cell BK179.out 3).trans rfl, (blk_cell BK179.out 4).trans rfl, (blk_cell BK179.out 5).trans rfl, (blk_cell BK179.out 6).trans rfl, (blk_cell BK179.out 7).trans rfl, (blk_cell BK179.out 8).trans rfl, ((HB.out.cell (World.block_lt_of_cell? w _ hw181_0)).trans hw181_0), ((HB.out.cell (World.block_lt_of_cell? w _ hw181_1)).trans hw181_1), ((HB.out.cell (World.block_lt_of_cell? w _ hw181_2)).trans hw181_2), ((HB.out.cell (World.block_lt_of_cell? w _ hw181_3)).trans hw181_3), ((HB.out.cell (World.block_lt_of_cell? w _ hw181_4)).trans hw181_4), ((HB.out.cell (World.block_lt_of_cell? w _ hw181_5)).trans hw181_5), ((HB.out.cell (World.block_lt_of_cell? w _ hw181_6)).trans hw181_6), ((HB.out.cell (World.block_lt_of_cell? w _ hw181_7)).trans hw181_7), ((HB.out.cell (World.block_lt_of_cell? w _ hw181_8)).trans hw181_8)⟩ (fun hHeld => ?_)
            clear hK K
            refine norm_ (a' := ?_) ?_ ?_
            rotate_left
            ·show Act.put _ (some 30) _ = _
             simp only [Act.put, pk1, pk2, pk3, i64_w, i32_w]
             rfl
            refine pure_ (i := 16) (N := some 31) (v := ?_) (a' := ?_) pkb19_17 rfl rfl (any_of HT_.out (by kernel_rfl)) (fun _ _ _ h => h) (Or.inl ⟨by rfl, ?_⟩) ?_ ?_; rotate_left; (intro w'; go_simp; with_reducible rfl); rotate_left; (simp only [Act.put, pk1, pk2, pk3, i64_w, i32_w]; rfl)
            refine pure_ (i := 17) (N := some 32) (v := ?_) (a' := ?_) pkb19_18 rfl rfl (any_of HT_.out (by kernel_rfl)) (fun _ _ _ h => h) (Or.inl ⟨by rfl, ?_⟩) ?_ ?_; rotate_left; (intro w'; go_simp; with_reducible rfl); rotate_left; (simp only [Act.put, pk1, pk2, pk3, i64_w, i32_w]; rfl)
            refine pure_ (i := 18) (N := some 33) (v := ?_) (a' := ?_) pkb19_19 rfl rfl (any_of HT_.out (by kernel_rfl)) (fun _ _ _ h => h) (Or.inl ⟨by rfl, ?_⟩) ?_ ?_; rotate_left; (intro w'; go_simp; with_reducible rfl); rotate_left; (simp only [Act.put, pk1, pk2, pk3, i64_w, i32_w]; rfl)
            refine done_ (done_of HT_.out (by kernel_rfl)) ?_
            try go_wp2
            go_ret
            exact ⟨by first | rfl | (simp [errW_none, errW_some] <;> rfl) | (simp only [← hji9]; first | rfl | (simp [errW_none, errW_some] <;> rfl)) | (simp [*, errW_none, errW_some] <;> rfl), by repeat (first | (with_reducible first | exact HB.out | apply pkA | apply pkN | apply pkD | refine below_set ?_ GE179.out) | exact HB.out)⟩
           ·rw [if_neg c13] at H
            have c13b0 : decide (0 ≤ t182) = false := decide_eq_false c13
            clear c13
            have H' := Aside0.mk H
            clear H
            have p178 : 0 ≤ (x10_1 : Int) := of_decide_eq_true (by first | (with_reducible assumption) | assumption)
            have q178 : x10_1 < (l0.length : Int) := of_decide_eq_true (by first | (with_reducible assumption) | assumption)
            obtain ⟨ad178, e178, hx178_0, hx178_1, hx178_2, hx178_3, hx178_4, hx178_5, hx178_6, hx178_7, hx178_8⟩ := at_T95 HR0.out x10_1 p178 q178
            cases e178
            obtain ⟨hx178_0, hx178_1, hx178_2, hx178_3, hx178_4, hx178_5, hx178_6, hx178_7, hx178_8⟩ := pk_up9 HB.out hx178_0 hx178_1 hx178_2 hx178_3 hx178_4 hx178_5 hx178_6 hx178_7 hx178_8
            replace p178 := eq_true p178
            replace q178 := eq_true q178
            try go_wp2_with (first | ((with_reducible refine gate_dst (N := 4) rfl ?_); refine box_event ?hg (N := 4) ?hd (cs := #[.int .i64 0, .int .i64 0, .int .i64 0, .int .i64 0, .int .i64 0, .string (⟨#[]⟩ : ByteArray), .string (⟨#[]⟩ : ByteArray), .string (⟨#[]⟩ : ByteArray), .string (⟨#[]⟩ : ByteArray)]) (t := 95) ?hr ?_; (case hd => rfl); (case hg => rfl); (case hr => first | (go_simp; done) | (go_simp; rfl)); intro gb179 hg w20 hbox hb; have n0_ := Aside0.mk (below_step (by repeat (first | (with_reducible first | exact HB.out | apply pkA | apply pkN | apply pkD) | exact HB.out)) hb); have n1_ := Aside0.mk (hbox); have n2_ := Aside0.mk ((by rw [hg]; exact (below_size (by repeat (first | (with_reducible first | exact HB.out | apply pkA | apply pkN | apply pkD) | exact HB.out))) : w.heap.size ≤ gb179)); have n3_ := Aside0.mk ((by rw [hg]; exact (below_size (by repeat (first | (with_reducible first | exact HB.out | apply pkA | apply pkN | apply pkD) | exact HB.out))) : w.heap.size ≤ gb179)); clear HB; have HB := n0_; have BK179 := n1_; have GW179 := n2_; have GE179 := n3_; clear n0_ n1_ n2_ n3_; clear hb hbox hg; obtain ⟨hcz21_0, hcz21_1, hcz21_2, hcz21_3, hcz21_4, hcz21_5, hcz21_6, hcz21_7, hcz21_8⟩ := pk_cells9 BK179.out; have hfz21_0 := blk_frozen BK179.out))
            have n0_ : Aside0 ((((((((((w20.setCell ⟨gb179, 0, none⟩ (.int .i64 ((rd_T95 l0 x10_1).f0.f0))).setCell ⟨gb179, 1, none⟩ (.int .i64 ((rd_T95 l0 x10_1).f0.f1))).setCell ⟨gb179, 2, none⟩ (.int .i64 ((rd_T95 l0 x10_1).f1))).setCell ⟨gb179, 3, none⟩ (.int .i64 ((rd_T95 l0 x10_1).f2))).setCell ⟨gb179, 4, none⟩ (.int .i64 ((rd_T95 l0 x10_1).f3))).setCell ⟨gb179, 5, none⟩ (.string ((rd_T95 l0 x10_1).f4.f0))).setCell ⟨gb179, 6, none⟩ (.string ((rd_T95 l0 x10_1).f4.f1))).setCell ⟨gb179, 7, none⟩ (.string ((rd_T95 l0 x10_1).f5))).setCell ⟨gb179, 8, none⟩ (.string ((rd_T95 l0 x10_1).f6))).heap[gb179]? = some (.cells #[.int .i64 ((rd_T95 l0 x10_1).f0.f0), .int .i64 ((rd_T95 l0 x10_1).f0.f1), .int .i64 ((rd_T95 l0 x10_1).f1), .int .i64 ((rd_T95 l0 x10_1).f2), .int .i64 ((rd_T95 l0 x10_1).f3), .string ((rd_T95 l0 x10_1).f4.f0), .string ((rd_T95 l0 x10_1).f4.f1), .string ((rd_T95 l0 x10_1).f5), .string ((rd_T95 l0 x10_1).f6)] 95 (0, 0))) := ⟨by apply pk_puts9; (with_reducible repeat (first | refine pkd ?_ _ | refine pke ?_ | refine pkf ?_ _)); exact BK179.out⟩
            have n1_ : Aside0 (Below w.heap.size w (((((((((w20.setCell ⟨gb179, 0, none⟩ (.int .i64 ((rd_T95 l0 x10_1).f0.f0))).setCell ⟨gb179, 1, none⟩ (.int .i64 ((rd_T95 l0 x10_1).f0.f1))).setCell ⟨gb179, 2, none⟩ (.int .i64 ((rd_T95 l0 x10_1).f1))).setCell ⟨gb179, 3, none⟩ (.int .i64 ((rd_T95 l0 x10_1).f2))).setCell ⟨gb179, 4, none⟩ (.int .i64 ((rd_T95 l0 x10_1).f3))).setCell ⟨gb179, 5, none⟩ (.string ((rd_T95 l0 x10_1).f4.f0))).setCell ⟨gb179, 6, none⟩ (.string ((rd_T95 l0 x10_1).f4.f1))).setCell ⟨gb179, 7, none⟩ (.string ((rd_T95 l0 x10_1).f5))).setCell ⟨gb179, 8, none⟩ (.string ((rd_T95 l0 x10_1).f6)))) := ⟨by repeat (first | (with_reducible first | exact HB.out | apply pkA | apply pkN | apply pkD | refine below_set ?_ GE179.out) | exact HB.out)⟩
            (try clear BK179)
            (try clear HB)
            generalize (((((((((w20.setCell ⟨gb179, 0, none⟩ (.int .i64 ((rd_T95 l0 x10_1).f0.f0))).setCell ⟨gb179, 1, none⟩ (.int .i64 ((rd_T95 l0 x10_1).f0.f1))).setCell ⟨gb179, 2, none⟩ (.int .i64 ((rd_T95 l0 x10_1).f1))).setCell ⟨gb179, 3, none⟩ (.int .i64 ((rd_T95 l0 x10_1).f2))).setCell ⟨gb179, 4, none⟩ (.int .i64 ((rd_T95 l0 x10_1).f3))).setCell ⟨gb179, 5, none⟩ (.string ((rd_T95 l0 x10_1).f4.f0))).setCell ⟨gb179, 6, none⟩ (.string ((rd_T95 l0 x10_1).f4.f1))).setCell ⟨gb179, 7, none⟩ (.string ((rd_T95 l0 x10_1).f5))).setCell ⟨gb179, 8, none⟩ (.string ((rd_T95 l0 x10_1).f6))) = w22 at n0_ n1_ ⊢
            have BK179 := n0_
            have HB := n1_
            clear n0_ n1_
            have n0_ := Aside0.mk (pke BK179.out)
            have n1_ := Aside0.mk (pkD HB.out)
            clear BK179
            clear HB
            have BK179 := n0_
            have HB := n1_
            clear n0_ n1_
            have p181 : 0 ≤ ((ji9) : Int) := of_decide_eq_true (by first | (with_reducible assumption) | assumption)
            have q181 : (ji9) < (l0.length : Int) := of_decide_eq_true (by first | (with_reducible assumption) | assumption)
            obtain ⟨ad181, e181, hx181_0, hx181_1, hx181_2, hx181_3, hx181_4, hx181_5, hx181_6, hx181_7, hx181_8⟩ := at_T95 HR0.out (ji9) p181 q181
            have hw181_8 := hx181_8
            have hw181_7 := hx181_7
            have hw181_6 := hx181_6
            have hw181_5 := hx181_5
            have hw181_4 := hx181_4
            have hw181_3 := hx181_3
            have hw181_2 := hx181_2
            have hw181_1 := hx181_1
            have hw181_0 := hx181_0
            obtain rfl : ad178 = ad181 := (by injection e181)
            obtain ⟨hx181_0, hx181_1, hx181_2, hx181_3, hx181_4, hx181_5, hx181_6, hx181_7, hx181_8⟩ := pk_up9 HB.out hx181_0 hx181_1 hx181_2 hx181_3 hx181_4 hx181_5 hx181_6 hx181_7 hx181_8
            replace p181 := eq_true p181
            replace q181 := eq_true q181
            refine start_ (n := 19) (S := fun w' => w'.cell? ⟨gb179, 0, none⟩ = some (.int .i64 ((rd_T95 l0 x10_1).f0.f0)) ∧ w'.cell? ⟨gb179, 1, none⟩ = some (.int .i64 ((rd_T95 l0 x10_1).f0.f1)) ∧ w'.cell? ⟨gb179, 2, none⟩ = some (.int .i64 ((rd_T95 l0 x10_1).f1)) ∧ w'.cell? ⟨gb179, 3, none⟩ = some (.int .i64 ((rd_T95 l0 x10_1).f2)) ∧ w'.cell? ⟨gb179, 4, none⟩ = some (.int .i64 ((rd_T95 l0 x10_1).f3)) ∧ w'.cell? ⟨gb179, 5, none⟩ = some (.string ((rd_T95 l0 x10_1).f4.f0)) ∧ w'.cell? ⟨gb179, 6, none⟩ = some (.string ((rd_T95 l0 x10_1).f4.f1)) ∧ w'.cell? ⟨gb179, 7, none⟩ = some (.string ((rd_T95 l0 x10_1).f5)) ∧ w'.cell? ⟨gb179, 8, none⟩ = some (.string ((rd_T95 l0 x10_1).f6)) ∧ w'.cell? (ad178.add (((ji9)).toNat * 9)) = some (.int .i64 ((rd_T95 l0 (ji9)).f0.f0)) ∧ w'.cell? ⟨(ad178.add (((ji9)).toNat * 9)).block, (ad178.add (((ji9)).toNat * 9)).off + 1, none⟩ = some (.int .i64 ((rd_T95 l0 (ji9)).f0.f1)) ∧ w'.cell? ⟨(ad178.add (((ji9)).toNat * 9)).block, (ad178.add (((ji9)).toNat * 9)).off + 2, none⟩ = some (.int .i64 ((rd_T95 l0 (ji9)).f1)) ∧ w'.cell? ⟨(ad178.add (((ji9)).toNat * 9)).block, (ad178.add (((ji9)).toNat * 9)).off + 3, none⟩ = some (.int .i64 ((rd_T95 l0 (ji9)).f2)) ∧ w'.cell? ⟨(ad178.add (((ji9)).toNat * 9)).block, (ad178.add (((ji9)).toNat * 9)).off + 4, none⟩ = some (.int .i64 ((rd_T95 l0 (ji9)).f3)) ∧ w'.cell? ⟨(ad178.add (((ji9)).toNat * 9)).block, (ad178.add (((ji9)).toNat * 9)).off + 5, none⟩ = some (.string ((rd_T95 l0 (ji9)).f4.f0)) ∧ w'.cell? ⟨(ad178.add (((ji9)).toNat * 9)).block, (ad178.add (((ji9)).toNat * 9)).off + 6, none⟩ = some (.string ((rd_T95 l0 (ji9)).f4.f1)) ∧ w'.cell? ⟨(ad178.add (((ji9)).toNat * 9)).block, (ad178.add (((ji9)).toNat * 9)).off + 7, none⟩ = some (.string ((rd_T95 l0 (ji9)).f5)) ∧ w'.cell? ⟨(ad178.add (((ji9)).toNat * 9)).block, (ad178.add (((ji9)).toNat * 9)).off + 8, none⟩ = some (.string ((rd_T95 l0 (ji9)).f6))) (ds := []) pkb19_0 (by kernel_rfl) rfl rfl ⟨(blk_cell BK179.out 0).trans rfl, (blk_cell BK179.out 1).trans rfl, (blk_cell BK179.out 2).trans rfl, (blk_cell BK179.out 3).trans rfl, (blk_cell BK179.out 4).trans rfl, (blk_cell BK179.out 5).trans rfl, (blk_cell BK179.out 6).trans rfl, (blk_cell BK179.out 7).trans rfl, (blk_cell BK179.out 8).trans rfl, ((HB.out.cell (World.block_lt_of_cell? w _ hw181_0)).trans hw181_0), ((HB.out.cell (World.block_lt_of_cell? w _ hw181_1)).trans hw181_1), ((HB.out.cell (World.block_lt_of_cell? w _ hw181_2)).trans hw181_2), ((HB.out.cell (World.block_lt_of_cell? w _ hw181_3)).trans hw181_3), ((HB.out.cell (World.block_lt_of_cell? w _ hw181_4)).trans hw181_4), ((HB.out.cell (World.block_lt_of_cell? w _ hw181_5)).trans hw181_5), ((HB.out.cell (World.block_lt_of_cell? w _ hw181_6)).trans hw181_6), ((HB.out.cell (World.block_lt_of_cell? w _ hw181_7)).trans hw181_7), ((HB.out.cell (World.block_lt_of_cell? w _ hw181_8)).trans hw181_8)⟩ (fun hHeld => ?_); refine with_tabW spec_GoodLog.tab6 spec_GoodLog.bits6 (fun HT_ HW_ => ?_)
            generalize w22.drew = w23 at BK179 HB hx181_0 hx181_1 hx181_2 hx181_3 hx181_4 hx181_5 hx181_6 hx181_7 hx181_8 hHeld ⊢
            refine take_ (i := 0) (N := some 15) (v := ?_) (a' := ?_) pkb19_1 rfl rfl (take_ofW HT_.out HW_.out (by kernel_rfl)) (fun _ _ _ h => h) (Or.inl ⟨by rfl, ?_⟩) hHeld ?_ ?_; rotate_left; (rintro w' ⟨s0, s1, s2, s3, s4, s5, s6, s7, s8, s9, s10, s11, s12, s13, s14, s15, s16, s17⟩; go_simp; with_reducible rfl); rotate_left; (simp only [Act.put, pk1, pk2, pk3, i64_w, i32_w]; rfl)
            refine one_ (i := 1) (N := some 16) pkb19_2 rfl rfl (one_of HT_.out (by kernel_rfl)) (by decide) (fun K hK => ?_)
            refine goes_ Try.func92 (by kernel_rfl) rfl #[.agg #[.int .i64 ((rd_T95 l0 x10_1).f0.f0), .int .i64 ((rd_T95 l0 x10_1).f0.f1), .int .i64 ((rd_T95 l0 x10_1).f1), .int .i64 ((rd_T95 l0 x10_1).f2), .int .i64 ((rd_T95 l0 x10_1).f3), .string ((rd_T95 l0 x10_1).f4.f0), .string ((rd_T95 l0 x10_1).f4.f1), .string ((rd_T95 l0 x10_1).f5), .string ((rd_T95 l0 x10_1).f6)]] (by rfl) rfl rfl (by (try simp only [List.map_toArray, List.map_cons, List.map_nil]); first | done | rfl | (simp only [List.length_drop, List.length_take]; rfl)) ?_
            with_reducible refine (spec_GoodChange.calls k1 ((rd_T95 l0 x10_1).f0.f0) ((rd_T95 l0 x10_1).f0.f1) ((rd_T95 l0 x10_1).f1) ((rd_T95 l0 x10_1).f2) ((rd_T95 l0 x10_1).f3) ((rd_T95 l0 x10_1).f4.f0) ((rd_T95 l0 x10_1).f4.f1) ((rd_T95 l0 x10_1).f5) ((rd_T95 l0 x10_1).f6) true _ A6.out).mono ?_
            rintro e w24 ⟨rfl, hb⟩
            refine ⟨_, rfl, ?_⟩
            have n0_ := Aside0.mk (blk_below (g := gb179) (o := .cells #[.int .i64 ((rd_T95 l0 x10_1).f0.f0), .int .i64 ((rd_T95 l0 x10_1).f0.f1), .int .i64 ((rd_T95 l0 x10_1).f1), .int .i64 ((rd_T95 l0 x10_1).f2), .int .i64 ((rd_T95 l0 x10_1).f3), .string ((rd_T95 l0 x10_1).f4.f0), .string ((rd_T95 l0 x10_1).f4.f1), .string ((rd_T95 l0 x10_1).f5), .string ((rd_T95 l0 x10_1).f6)] 95 (0, 0)) (by (with_reducible repeat (first | refine pkd ?_ _ | refine pke ?_ | refine pkf ?_ _)); exact BK179.out) hb)
            have n1_ := Aside0.mk (below_step (by repeat (first | (with_reducible first | exact HB.out | apply pkA | apply pkN | apply pkD | refine below_set ?_ GE179.out) | exact HB.out)) hb)
            clear BK179
            clear HB
            have BK179 := n0_
            have HB := n1_
            clear n0_ n1_
            (try clear hb)
            (try clear hb2)
            (try clear hk)
            (try clear hi)
            refine hK.out _ _ ⟨(blk_cell BK179.out 0).trans rfl, (blk_cell BK179.out 1).trans rfl, (blk_cell BK179.out 2).trans rfl, (blk_cell BK179.out 3).trans rfl, (blk_cell BK179.out 4).trans rfl, (blk_cell BK179.out 5).trans rfl, (blk_cell BK179.out 6).trans rfl, (blk_cell BK179.out 7).trans rfl, (blk_cell BK179.out 8).trans rfl, ((HB.out.cell (World.block_lt_of_cell? w _ hw181_0)).trans hw181_0), ((HB.out.cell (World.block_lt_of_cell? w _ hw181_1)).trans hw181_1), ((HB.out.cell (World.block_lt_of_cell? w _ hw181_2)).trans hw181_2), ((HB.out.cell (World.block_lt_of_cell? w _ hw181_3)).trans hw181_3), ((HB.out.cell (World.block_lt_of_cell? w _ hw181_4)).trans hw181_4), ((HB.out.cell (World.block_lt_of_cell? w _ hw181_5)).trans hw181_5), ((HB.out.cell (World.block_lt_of_cell? w _ hw181_6)).trans hw181_6), ((HB.out.cell (World.block_lt_of_cell? w _ hw181_7)).trans hw181_7), ((HB.out.cell (World.block_lt_of_cell? w _ hw181_8)).trans hw181_8)⟩ (fun hHeld => ?_)
            clear hK K
            refine norm_ (a' := ?_) ?_ ?_
            rotate_left
            ·show Act.put _ (some 16) _ = _
             simp only [Act.put, pk1, pk2, pk3, i64_w, i32_w]
             rfl
            refine pure_ (i := 2) (N := some 17) (v := ?_) (a' := ?_) pkb19_3 rfl rfl (any_of HT_.out (by kernel_rfl)) (fun _ _ _ h => h) (Or.inl ⟨by rfl, ?_⟩) ?_ ?_; rotate_left; (intro w'; go_simp; with_reducible rfl); rotate_left; (simp only [Act.put, pk1, pk2, pk3, i64_w, i32_w]; rfl)
            refine pure_ (i := 3) (N := some 18) (v := ?_) (a' := ?_) pkb19_4 rfl rfl (any_of HT_.out (by kernel_rfl)) (fun _ _ _ h => h) (Or.inl ⟨by rfl, ?_⟩) ?_ ?_; rotate_left; (intro w'; go_simp; with_reducible rfl); rotate_left; (simp only [Act.put, pk1, pk2, pk3, i64_w, i32_w]; rfl)
            refine pure_ (i := 4) (N := some 19) (v := ?_) (a' := ?_) pkb19_5 rfl rfl (any_of HT_.out (by kernel_rfl)) (fun _ _ _ h => h) (Or.inl ⟨by rfl, ?_⟩) ?_ ?_; rotate_left; (intro w'; go_simp; with_reducible rfl); rotate_left; (simp only [Act.put, pk1, pk2, pk3, i64_w, i32_w]; rfl)
            refine pure_ (i := 5) (N := some 20) (v := ?_) (a' := ?_) pkb19_6 rfl rfl (any_of HT_.out (by kernel_rfl)) (fun _ _ _ h => h) (Or.inl ⟨by rfl, ?_⟩) ?_ ?_; rotate_left; (intro w'; go_simp; with_reducible rfl); rotate_left; (simp only [Act.put, pk1, pk2, pk3, i64_w, i32_w]; rfl)
            refine pure_ (i := 6) (N := some 21) (v := ?_) (a' := ?_) pkb19_7 rfl rfl (any_of HT_.out (by kernel_rfl)) (fun _ _ _ h => h) (Or.inl ⟨by rfl, ?_⟩) ?_ ?_; rotate_left; (intro w'; go_simp; with_reducible rfl); rotate_left; (simp only [Act.put, pk1, pk2, pk3, i64_w, i32_w]; rfl)
            refine pure_ (i := 7) (N := some 22) (v := ?_) (a' := ?_) pkb19_8 rfl rfl (any_of HT_.out (by kernel_rfl)) (fun _ _ _ h => h) (Or.inl ⟨by rfl, ?_⟩) ?_ ?_; rotate_left; (intro w'; go_simp; with_reducible rfl); rotate_left; (simp only [Act.put, pk1, pk2, pk3, i64_w, i32_w]; rfl)
            refine pure_ (i := 8) (N := some 23) (v := ?_) (a' := ?_) pkb19_9 rfl rfl (any_of HT_.out (by kernel_rfl)) (fun _ _ _ h => h) (Or.inl ⟨by rfl, ?_⟩) ?_ ?_; rotate_left; (intro w'; go_simp; with_reducible rfl); rotate_left; (simp only [Act.put, pk1, pk2, pk3, i64_w, i32_w]; rfl)
            refine pure_ (i := 9) (N := some 24) (v := ?_) (a' := ?_) pkb19_10 rfl rfl (any_of HT_.out (by kernel_rfl)) (fun _ _ _ h => h) (Or.inl ⟨by rfl, ?_⟩) ?_ ?_; rotate_left; (intro w'; go_simp; with_reducible rfl); rotate_left; (simp only [Act.put, pk1, pk2, pk3, i64_w, i32_w]; rfl)
            refine pure_ (i := 10) (N := some 25) (v := ?_) (a' := ?_) pkb19_11 rfl rfl (any_of HT_.out (by kernel_rfl)) (fun _ _ _ h => h) (Or.inl ⟨by rfl, ?_⟩) ?_ ?_; rotate_left; (intro w'; go_simp; with_reducible rfl); rotate_left; (simp only [Act.put, pk1, pk2, pk3, i64_w, i32_w]; rfl)
            refine pure_ (i := 11) (N := some 26) (v := ?_) (a' := ?_) pkb19_12 rfl rfl (any_of HT_.out (by kernel_rfl)) (fun _ _ _ h => h) (Or.inl ⟨by rfl, ?_⟩) ?_ ?_; rotate_left; (intro w'; go_simp; with_reducible rfl); rotate_left; (simp only [Act.put, pk1, pk2, pk3, i64_w, i32_w]; rfl)
            refine pure_ (i := 13) (N := some 28) (v := ?_) (a' := ?_) #[true, true, true, true, true, true, true, true, true, true, true, true, false, true, false, false, false, false, false] rfl rfl (any_of HT_.out (by kernel_rfl)) (fun _ _ _ h => h) (Or.inl ⟨by rfl, ?_⟩) ?_ ?_; rotate_left; (intro w'; go_simp; with_reducible rfl); rotate_left; (simp only [Act.put, pk1, pk2, pk3, i64_w, i32_w]; rfl)
            refine take_ (i := 12) (N := some 27) (v := ?_) (a' := ?_) pkb19_14 rfl rfl (take_ofW HT_.out HW_.out (by kernel_rfl)) (fun _ _ _ h => h) (Or.inl ⟨by rfl, ?_⟩) hHeld ?_ ?_; rotate_left; (rintro w' ⟨s0, s1, s2, s3, s4, s5, s6, s7, s8, s9, s10, s11, s12, s13, s14, s15, s16, s17⟩; go_simp; with_reducible rfl); rotate_left; (simp only [Act.put, pk1, pk2, pk3, i64_w, i32_w]; rfl)
            refine take_ (i := 14) (N := some 29) (v := ?_) (a' := ?_) pkb19_15 rfl rfl (take_ofW HT_.out HW_.out (by kernel_rfl)) (fun _ _ _ h => h) (Or.inl ⟨by rfl, ?_⟩) hHeld ?_ ?_; rotate_left; (rintro w' ⟨s0, s1, s2, s3, s4, s5, s6, s7, s8, s9, s10, s11, s12, s13, s14, s15, s16, s17⟩; go_simp; with_reducible rfl); rotate_left; (simp only [Act.put, pk1, pk2, pk3, i64_w, i32_w]; rfl)
            refine one_ (i := 15) (N := some 30) pkb19_16 rfl rfl (one_of HT_.out (by kernel_rfl)) (by decide) (fun K hK => ?_)
            refine goes_ Try.func93 (by kernel_rfl) rfl #[.agg #[.int .i64 ((rd_T95 l0 (ji9)).f0.f0), .int .i64 ((rd_T95 l0 (ji9)).f0.f1)], .agg #[.int .i64 ((rd_T95 l0 x10_1).f0.f0), .int .i64 ((rd_T95 l0 x10_1).f0.f1)]] (by rfl) rfl rfl (by (try simp only [List.map_toArray, List.map_cons, List.map_nil]); first | done | (simp only [hji9]; rfl) | rfl | (simp only [List.length_drop, List.length_take]; rfl)) ?_
            with_reducible refine (spec_l4Cmp.calls ((rd_T95 l0 (ji9)).f0.f0) ((rd_T95 l0 (ji9)).f0.f1) ((rd_T95 l0 x10_1).f0.f0) ((rd_T95 l0 x10_1).f0.f1) t182 _ A12.out).mono ?_
            rintro e w25 ⟨rfl, hb⟩
            refine ⟨_, rfl, ?_⟩
            have n0_ := Aside0.mk (blk_below (g := gb179) (o := .cells #[.int .i64 ((rd_T95 l0 x10_1).f0.f0), .int .i64 ((rd_T95 l0 x10_1).f0.f1), .int .i64 ((rd_T95 l0 x10_1).f1), .int .i64 ((rd_T95 l0 x10_1).f2), .int .i64 ((rd_T95 l0 x10_1).f3), .string ((rd_T95 l0 x10_1).f4.f0), .string ((rd_T95 l0 x10_1).f4.f1), .string ((rd_T95 l0 x10_1).f5), .string ((rd_T95 l0 x10_1).f6)] 95 (0, 0)) (by (with_reducible repeat (first | refine pkd ?_ _ | refine pke ?_ | refine pkf ?_ _)); exact BK179.out) hb)
            have n1_ := Aside0.mk (below_step (by repeat (first | (with_reducible first | exact HB.out | apply pkA | apply pkN | apply pkD | refine below_set ?_ GE179.out) | exact HB.out)) hb)
            clear BK179
            clear HB
            have BK179 := n0_
            have HB := n1_
            clear n0_ n1_
            (try clear hb)
            (try clear hb2)
            (try clear hk)
            (try clear hi)
            refine hK.out _ _ ⟨(blk_cell BK179.out 0).trans rfl, (blk_cell BK179.out 1).trans rfl, (blk_cell BK179.out 2).trans rfl, (blk_cell BK179.out 3).trans rfl, (blk_cell BK179.out 4).trans rfl, (blk_cell BK179.out 5).trans rfl, (blk_cell BK179.out 6).trans rfl, (blk_cell BK179.out 7).trans rfl, (blk_cell BK179.out 8).trans rfl, ((HB.out.cell (World.block_lt_of_cell? w _ hw181_0)).trans hw181_0), ((HB.out.cell (World.block_lt_of_cell? w _ hw181_1)).trans hw181_1), ((HB.out.cell (World.block_lt_of_cell? w _ hw181_2)).trans hw181_2), ((HB.out.cell (World.block_lt_of_cell? w _ hw181_3)).trans hw181_3), ((HB.out.cell (World.block_lt_of_cell? w _ hw181_4)).trans hw181_4), ((HB.out.cell (World.block_lt_of_cell? w _ hw181_5)).trans hw181_5), ((HB.out.cell (World.block_lt_of_cell? w _ hw181_6)).trans hw181_6), ((HB.out.cell (World.block_lt_of_cell? w _ hw181_7)).trans hw181_7), ((HB.out.cell (World.block_lt_of_cell? w _ hw181_8)).trans hw181_8)⟩ (fun hHeld => ?_)
            clear hK K
            refine norm_ (a' := ?_) ?_ ?_
            rotate_left
            ·show Act.put _ (some 30) _ = _
             simp only [Act.put, pk1, pk2, pk3, i64_w, i32_w]
             rfl
            refine pure_ (i := 16) (N := some 31) (v := ?_) (a' := ?_) pkb19_17 rfl rfl (any_of HT_.out (by kernel_rfl)) (fun _ _ _ h => h) (Or.inl ⟨by rfl, ?_⟩) ?_ ?_; rotate_left; (intro w'; go_simp; with_reducible rfl); rotate_left; (simp only [Act.put, pk1, pk2, pk3, i64_w, i32_w]; rfl)
            refine pure_ (i := 17) (N := some 32) (v := ?_) (a' := ?_) pkb19_18 rfl rfl (any_of HT_.out (by kernel_rfl)) (fun _ _ _ h => h) (Or.inl ⟨by rfl, ?_⟩) ?_ ?_; rotate_left; (intro w'; go_simp; with_reducible rfl); rotate_left; (simp only [Act.put, pk1, pk2, pk3, i64_w, i32_w]; rfl)
            refine pure_ (i := 18) (N := some 33) (v := ?_) (a' := ?_) pkb19_19 rfl rfl (any_of HT_.out (by kernel_rfl)) (fun _ _ _ h => h) (Or.inl ⟨by rfl, ?_⟩) ?_ ?_; rotate_left; (intro w'; go_simp; with_reducible rfl); rotate_left; (simp only [Act.put, pk1, pk2, pk3, i64_w, i32_w]; rfl)
            refine done_ (done_of HT_.out (by kernel_rfl)) ?_
            try go_wp2
            go_roundg k1
            case measure => have := HK1.out; omega
            case rel => exact ⟨(wrap64 (x10_1 + 1)), (by first | rfl | (simp; done) | (simp [pw_ne_nil, pw_eq_nil]; done) | (simp [*]; done)), H', ⟨by have := HK1.out; omega⟩, ⟨by repeat (first | (with_reducible first | exact HB.out | apply pkA | apply pkN | apply pkD | refine below_set ?_ GE179.out) | exact HB.out)⟩⟩
          ·rw [if_neg c11] at H
           exact absurd H (by simp)
         ·rw [if_neg c10] at H
          exact absurd H (by simp)
        ·rw [if_neg c8] at H
         have c8b0 : decide (0 < x10_1) = false := decide_eq_false c8
         clear c8
         have H' := Aside0.mk H
         clear H
         have p178 : 0 ≤ (x10_1 : Int) := of_decide_eq_true (by first | (with_reducible assumption) | assumption)
         have q178 : x10_1 < (l0.length : Int) := of_decide_eq_true (by first | (with_reducible assumption) | assumption)
         obtain ⟨ad178, e178, hx178_0, hx178_1, hx178_2, hx178_3, hx178_4, hx178_5, hx178_6, hx178_7, hx178_8⟩ := at_T95 HR0.out x10_1 p178 q178
         cases e178
         obtain ⟨hx178_0, hx178_1, hx178_2, hx178_3, hx178_4, hx178_5, hx178_6, hx178_7, hx178_8⟩ := pk_up9 HB.out hx178_0 hx178_1 hx178_2 hx178_3 hx178_4 hx178_5 hx178_6 hx178_7 hx178_8
         replace p178 := eq_true p178
         replace q178 := eq_true q178
         try go_wp2_with (first | ((with_reducible refine gate_dst (N := 4) rfl ?_); refine box_event ?hg (N := 4) ?hd (cs := #[.int .i64 0, .int .i64 0, .int .i64 0, .int .i64 0, .int .i64 0, .string (⟨#[]⟩ : ByteArray), .string (⟨#[]⟩ : ByteArray), .string (⟨#[]⟩ : ByteArray), .string (⟨#[]⟩ : ByteArray)]) (t := 95) ?hr ?_; (case hd => rfl); (case hg => rfl); (case hr => first | (go_simp; done) | (go_simp; rfl)); intro gb179 hg w26 hbox hb; have n0_ := Aside0.mk (below_step (by repeat (first | (with_reducible first | exact HB.out | apply pkA | apply pkN | apply pkD) | exact HB.out)) hb); have n1_ := Aside0.mk (hbox); have n2_ := Aside0.mk ((by rw [hg]; exact (below_size (by repeat (first | (with_reducible first | exact HB.out | apply pkA | apply pkN | apply pkD) | exact HB.out))) : w.heap.size ≤ gb179)); have n3_ := Aside0.mk ((by rw [hg]; exact (below_size (by repeat (first | (with_reducible first | exact HB.out | apply pkA | apply pkN | apply pkD) | exact HB.out))) : w.heap.size ≤ gb179)); clear HB; have HB := n0_; have BK179 := n1_; have GW179 := n2_; have GE179 := n3_; clear n0_ n1_ n2_ n3_; clear hb hbox hg; obtain ⟨hcz27_0, hcz27_1, hcz27_2, hcz27_3, hcz27_4, hcz27_5, hcz27_6, hcz27_7, hcz27_8⟩ := pk_cells9 BK179.out; have hfz27_0 := blk_frozen BK179.out))
         have n0_ : Aside0 ((((((((((w26.setCell ⟨gb179, 0, none⟩ (.int .i64 ((rd_T95 l0 x10_1).f0.f0))).setCell ⟨gb179, 1, none⟩ (.int .i64 ((rd_T95 l0 x10_1).f0.f1))).setCell ⟨gb179, 2, none⟩ (.int .i64 ((rd_T95 l0 x10_1).f1))).setCell ⟨gb179, 3, none⟩ (.int .i64 ((rd_T95 l0 x10_1).f2))).setCell ⟨gb179, 4, none⟩ (.int .i64 ((rd_T95 l0 x10_1).f3))).setCell ⟨gb179, 5, none⟩ (.string ((rd_T95 l0 x10_1).f4.f0))).setCell ⟨gb179, 6, none⟩ (.string ((rd_T95 l0 x10_1).f4.f1))).setCell ⟨gb179, 7, none⟩ (.string ((rd_T95 l0 x10_1).f5))).setCell ⟨gb179, 8, none⟩ (.string ((rd_T95 l0 x10_1).f6))).heap[gb179]? = some (.cells #[.int .i64 ((rd_T95 l0 x10_1).f0.f0), .int .i64 ((rd_T95 l0 x10_1).f0.f1), .int .i64 ((rd_T95 l0 x10_1).f1), .int .i64 ((rd_T95 l0 x10_1).f2), .int .i64 ((rd_T95 l0 x10_1).f3), .string ((rd_T95 l0 x10_1).f4.f0), .string ((rd_T95 l0 x10_1).f4.f1), .string ((rd_T95 l0 x10_1).f5), .string ((rd_T95 l0 x10_1).f6)] 95 (0, 0))) := ⟨by apply pk_puts9; (with_reducible repeat (first | refine pkd ?_ _ | refine pke ?_ | refine pkf ?_ _)); exact BK179.out⟩
         have n1_ : Aside0 (Below w.heap.size w (((((((((w26.setCell ⟨gb179, 0, none⟩ (.int .i64 ((rd_T95 l0 x10_1).f0.f0))).setCell ⟨gb179, 1, none⟩ (.int .i64 ((rd_T95 l0 x10_1).f0.f1))).setCell ⟨gb179, 2, none⟩ (.int .i64 ((rd_T95 l0 x10_1).f1))).setCell ⟨gb179, 3, none⟩ (.int .i64 ((rd_T95 l0 x10_1).f2))).setCell ⟨gb179, 4, none⟩ (.int .i64 ((rd_T95 l0 x10_1).f3))).setCell ⟨gb179, 5, none⟩ (.string ((rd_T95 l0 x10_1).f4.f0))).setCell ⟨gb179, 6, none⟩ (.string ((rd_T95 l0 x10_1).f4.f1))).setCell ⟨gb179, 7, none⟩ (.string ((rd_T95 l0 x10_1).f5))).setCell ⟨gb179, 8, none⟩ (.string ((rd_T95 l0 x10_1).f6)))) := ⟨by repeat (first | (with_reducible first | exact HB.out | apply pkA | apply pkN | apply pkD | refine below_set ?_ GE179.out) | exact HB.out)⟩
         (try clear BK179)
         (try clear HB)
         generalize (((((((((w26.setCell ⟨gb179, 0, none⟩ (.int .i64 ((rd_T95 l0 x10_1).f0.f0))).setCell ⟨gb179, 1, none⟩ (.int .i64 ((rd_T95 l0 x10_1).f0.f1))).setCell ⟨gb179, 2, none⟩ (.int .i64 ((rd_T95 l0 x10_1).f1))).setCell ⟨gb179, 3, none⟩ (.int .i64 ((rd_T95 l0 x10_1).f2))).setCell ⟨gb179, 4, none⟩ (.int .i64 ((rd_T95 l0 x10_1).f3))).setCell ⟨gb179, 5, none⟩ (.string ((rd_T95 l0 x10_1).f4.f0))).setCell ⟨gb179, 6, none⟩ (.string ((rd_T95 l0 x10_1).f4.f1))).setCell ⟨gb179, 7, none⟩ (.string ((rd_T95 l0 x10_1).f5))).setCell ⟨gb179, 8, none⟩ (.string ((rd_T95 l0 x10_1).f6))) = w28 at n0_ n1_ ⊢
         have BK179 := n0_
         have HB := n1_
         clear n0_ n1_
         have n0_ := Aside0.mk (pke BK179.out)
         have n1_ := Aside0.mk (pkD HB.out)
         clear BK179
         clear HB
         have BK179 := n0_
         have HB := n1_
         clear n0_ n1_
         refine start_ (n := 19) (S := fun w' => w'.cell? ⟨gb179, 0, none⟩ = some (.int .i64 ((rd_T95 l0 x10_1).f0.f0)) ∧ w'.cell? ⟨gb179, 1, none⟩ = some (.int .i64 ((rd_T95 l0 x10_1).f0.f1)) ∧ w'.cell? ⟨gb179, 2, none⟩ = some (.int .i64 ((rd_T95 l0 x10_1).f1)) ∧ w'.cell? ⟨gb179, 3, none⟩ = some (.int .i64 ((rd_T95 l0 x10_1).f2)) ∧ w'.cell? ⟨gb179, 4, none⟩ = some (.int .i64 ((rd_T95 l0 x10_1).f3)) ∧ w'.cell? ⟨gb179, 5, none⟩ = some (.string ((rd_T95 l0 x10_1).f4.f0)) ∧ w'.cell? ⟨gb179, 6, none⟩ = some (.string ((rd_T95 l0 x10_1).f4.f1)) ∧ w'.cell? ⟨gb179, 7, none⟩ = some (.string ((rd_T95 l0 x10_1).f5)) ∧ w'.cell? ⟨gb179, 8, none⟩ = some (.string ((rd_T95 l0 x10_1).f6))) (ds := []) pkb19_0 (by kernel_rfl) rfl rfl ⟨(blk_cell BK179.out 0).trans rfl, (blk_cell BK179.out 1).trans rfl, (blk_cell BK179.out 2).trans rfl, (blk_cell BK179.out 3).trans rfl, (blk_cell BK179.out 4).trans rfl, (blk_cell BK179.out 5).trans rfl, (blk_cell BK179.out 6).trans rfl, (blk_cell BK179.out 7).trans rfl, (blk_cell BK179.out 8).trans rfl⟩ (fun hHeld => ?_); refine with_tabW spec_GoodLog.tab6 spec_GoodLog.bits6 (fun HT_ HW_ => ?_)
         generalize w28.drew = w29 at BK179 HB hHeld ⊢
         refine take_ (i := 0) (N := some 15) (v := ?_) (a' := ?_) pkb19_1 rfl rfl (take_ofW HT_.out HW_.out (by kernel_rfl)) (fun _ _ _ h => h) (Or.inl ⟨by rfl, ?_⟩) hHeld ?_ ?_; rotate_left; (rintro w' ⟨s0, s1, s2, s3, s4, s5, s6, s7, s8⟩; go_simp; with_reducible rfl); rotate_left; (simp only [Act.put, pk1, pk2, pk3, i64_w, i32_w]; rfl)
         refine one_ (i := 1) (N := some 16) pkb19_2 rfl rfl (one_of HT_.out (by kernel_rfl)) (by decide) (fun K hK => ?_)
         refine goes_ Try.func92 (by kernel_rfl) rfl #[.agg #[.int .i64 ((rd_T95 l0 x10_1).f0.f0), .int .i64 ((rd_T95 l0 x10_1).f0.f1), .int .i64 ((rd_T95 l0 x10_1).f1), .int .i64 ((rd_T95 l0 x10_1).f2), .int .i64 ((rd_T95 l0 x10_1).f3), .string ((rd_T95 l0 x10_1).f4.f0), .string ((rd_T95 l0 x10_1).f4.f1), .string ((rd_T95 l0 x10_1).f5), .string ((rd_T95 l0 x10_1).f6)]] (by rfl) rfl rfl (by (try simp only [List.map_toArray, List.map_cons, List.map_nil]); first | done | rfl | (simp only [List.length_drop, List.length_take]; rfl)) ?_
         with_reducible refine (spec_GoodChange.calls k1 ((rd_T95 l0 x10_1).f0.f0) ((rd_T95 l0 x10_1).f0.f1) ((rd_T95 l0 x10_1).f1) ((rd_T95 l0 x10_1).f2) ((rd_T95 l0 x10_1).f3) ((rd_T95 l0 x10_1).f4.f0) ((rd_T95 l0 x10_1).f4.f1) ((rd_T95 l0 x10_1).f5) ((rd_T95 l0 x10_1).f6) true _ A6.out).mono ?_
         rintro e w30 ⟨rfl, hb⟩
         refine ⟨_, rfl, ?_⟩
         have n0_ := Aside0.mk (blk_below (g := gb179) (o := .cells #[.int .i64 ((rd_T95 l0 x10_1).f0.f0), .int .i64 ((rd_T95 l0 x10_1).f0.f1), .int .i64 ((rd_T95 l0 x10_1).f1), .int .i64 ((rd_T95 l0 x10_1).f2), .int .i64 ((rd_T95 l0 x10_1).f3), .string ((rd_T95 l0 x10_1).f4.f0), .string ((rd_T95 l0 x10_1).f4.f1), .string ((rd_T95 l0 x10_1).f5), .string ((rd_T95 l0 x10_1).f6)] 95 (0, 0)) (by (with_reducible repeat (first | refine pkd ?_ _ | refine pke ?_ | refine pkf ?_ _)); exact BK179.out) hb)
         have n1_ := Aside0.mk (below_step (by repeat (first | (with_reducible first | exact HB.out | apply pkA | apply pkN | apply pkD | refine below_set ?_ GE179.out) | exact HB.out)) hb)
         clear BK179
         clear HB
         have BK179 := n0_
         have HB := n1_
         clear n0_ n1_
         (try clear hb)
         (try clear hb2)
         (try clear hk)
         (try clear hi)
         refine hK.out _ _ ⟨(blk_cell BK179.out 0).trans rfl, (blk_cell BK179.out 1).trans rfl, (blk_cell BK179.out 2).trans rfl, (blk_cell BK179.out 3).trans rfl, (blk_cell BK179.out 4).trans rfl, (blk_cell BK179.out 5).trans rfl, (blk_cell BK179.out 6).trans rfl, (blk_cell BK179.out 7).trans rfl, (blk_cell BK179.out 8).trans rfl⟩ (fun hHeld => ?_)
         clear hK K
         refine norm_ (a' := ?_) ?_ ?_
         rotate_left
         ·show Act.put _ (some 16) _ = _
          simp only [Act.put, pk1, pk2, pk3, i64_w, i32_w]
          rfl
         refine pure_ (i := 2) (N := some 17) (v := ?_) (a' := ?_) pkb19_3 rfl rfl (any_of HT_.out (by kernel_rfl)) (fun _ _ _ h => h) (Or.inl ⟨by rfl, ?_⟩) ?_ ?_; rotate_left; (intro w'; go_simp; with_reducible rfl); rotate_left; (simp only [Act.put, pk1, pk2, pk3, i64_w, i32_w]; rfl)
         refine pure_ (i := 3) (N := some 18) (v := ?_) (a' := ?_) pkb19_4 rfl rfl (any_of HT_.out (by kernel_rfl)) (fun _ _ _ h => h) (Or.inl ⟨by rfl, ?_⟩) ?_ ?_; rotate_left; (intro w'; go_simp; with_reducible rfl); rotate_left; (simp only [Act.put, pk1, pk2, pk3, i64_w, i32_w]; rfl)
         refine pure_ (i := 4) (N := some 19) (v := ?_) (a' := ?_) pkb19_5 rfl rfl (any_of HT_.out (by kernel_rfl)) (fun _ _ _ h => h) (Or.inl ⟨by rfl, ?_⟩) ?_ ?_; rotate_left; (intro w'; go_simp; with_reducible rfl); rotate_left; (simp only [Act.put, pk1, pk2, pk3, i64_w, i32_w]; rfl)
         refine pure_ (i := 5) (N := some 20) (v := ?_) (a' := ?_) pkb19_6 rfl rfl (any_of HT_.out (by kernel_rfl)) (fun _ _ _ h => h) (Or.inl ⟨by rfl, ?_⟩) ?_ ?_; rotate_left; (intro w'; go_simp; with_reducible rfl); rotate_left; (simp only [Act.put, pk1, pk2, pk3, i64_w, i32_w]; rfl)
         refine pure_ (i := 6) (N := some 21) (v := ?_) (a' := ?_) pkb19_7 rfl rfl (any_of HT_.out (by kernel_rfl)) (fun _ _ _ h => h) (Or.inl ⟨by rfl, ?_⟩) ?_ ?_; rotate_left; (intro w'; go_simp; with_reducible rfl); rotate_left; (simp only [Act.put, pk1, pk2, pk3, i64_w, i32_w]; rfl)
         refine pure_ (i := 7) (N := some 22) (v := undef) (a' := ?_) pkb19_8 rfl rfl (any_of HT_.out (by kernel_rfl)) (fun _ _ _ h => h) (Or.inr ⟨by rfl, rfl⟩) ?_ ?_; rotate_left; (simp only [Act.put, pk1, pk2, pk3, i64_w, i32_w]; rfl)
         refine pure_ (i := 8) (N := some 23) (v := undef) (a' := ?_) pkb19_9 rfl rfl (any_of HT_.out (by kernel_rfl)) (fun _ _ _ h => h) (Or.inr ⟨by rfl, rfl⟩) ?_ ?_; rotate_left; (simp only [Act.put, pk1, pk2, pk3, i64_w, i32_w]; rfl)
         refine pure_ (i := 9) (N := some 24) (v := undef) (a' := ?_) pkb19_10 rfl rfl (any_of HT_.out (by kernel_rfl)) (fun _ _ _ h => h) (Or.inr ⟨by rfl, rfl⟩) ?_ ?_; rotate_left; (simp only [Act.put, pk1, pk2, pk3, i64_w, i32_w]; rfl)
         refine pure_ (i := 10) (N := some 25) (v := undef) (a' := ?_) pkb19_11 rfl rfl (any_of HT_.out (by kernel_rfl)) (fun _ _ _ h => h) (Or.inr ⟨by rfl, rfl⟩) ?_ ?_; rotate_left; (simp only [Act.put, pk1, pk2, pk3, i64_w, i32_w]; rfl)
         refine pure_ (i := 11) (N := some 26) (v := undef) (a' := ?_) pkb19_12 rfl rfl (any_of HT_.out (by kernel_rfl)) (fun _ _ _ h => h) (Or.inr ⟨by rfl, rfl⟩) ?_ ?_; rotate_left; (simp only [Act.put, pk1, pk2, pk3, i64_w, i32_w]; rfl)
         refine pure_ (i := 12) (N := some 27) (v := undef) (a' := ?_) pkb19_13 rfl rfl (any_of HT_.out (by kernel_rfl)) (fun _ _ _ h => h) (Or.inr ⟨by rfl, rfl⟩) ?_ ?_; rotate_left; (simp only [Act.put, pk1, pk2, pk3, i64_w, i32_w]; rfl)
         refine pure_ (i := 13) (N := some 28) (v := undef) (a' := ?_) pkb19_14 rfl rfl (any_of HT_.out (by kernel_rfl)) (fun _ _ _ h => h) (Or.inr ⟨by rfl, rfl⟩) ?_ ?_; rotate_left; (simp only [Act.put, pk1, pk2, pk3, i64_w, i32_w]; rfl)
         refine pure_ (i := 14) (N := some 29) (v := undef) (a' := ?_) pkb19_15 rfl rfl (any_of HT_.out (by kernel_rfl)) (fun _ _ _ h => h) (Or.inr ⟨by rfl, rfl⟩) ?_ ?_; rotate_left; (simp only [Act.put, pk1, pk2, pk3, i64_w, i32_w]; rfl)
         refine pure_ (i := 15) (N := some 30) (v := undef) (a' := ?_) pkb19_16 rfl rfl (any_of HT_.out (by kernel_rfl)) (fun _ _ _ h => h) (Or.inr ⟨by rfl, rfl⟩) ?_ ?_; rotate_left; (simp only [Act.put, pk1, pk2, pk3, i64_w, i32_w]; rfl)
         refine pure_ (i := 16) (N := some 31) (v := undef) (a' := ?_) pkb19_17 rfl rfl (any_of HT_.out (by kernel_rfl)) (fun _ _ _ h => h) (Or.inr ⟨by rfl, rfl⟩) ?_ ?_; rotate_left; (simp only [Act.put, pk1, pk2, pk3, i64_w, i32_w]; rfl)
         refine pure_ (i := 17) (N := some 32) (v := ?_) (a' := ?_) pkb19_18 rfl rfl (any_of HT_.out (by kernel_rfl)) (fun _ _ _ h => h) (Or.inl ⟨by rfl, ?_⟩) ?_ ?_; rotate_left; (intro w'; go_simp; with_reducible rfl); rotate_left; (simp only [Act.put, pk1, pk2, pk3, i64_w, i32_w]; rfl)
         refine pure_ (i := 18) (N := some 33) (v := ?_) (a' := ?_) pkb19_19 rfl rfl (any_of HT_.out (by kernel_rfl)) (fun _ _ _ h => h) (Or.inl ⟨by rfl, ?_⟩) ?_ ?_; rotate_left; (intro w'; go_simp; with_reducible rfl); rotate_left; (simp only [Act.put, pk1, pk2, pk3, i64_w, i32_w]; rfl)
         refine done_ (done_of HT_.out (by kernel_rfl)) ?_
         try go_wp2
         go_roundg k1
         case measure => have := HK1.out; omega
         case rel => exact ⟨(wrap64 (x10_1 + 1)), (by first | rfl | (simp; done) | (simp [pw_ne_nil, pw_eq_nil]; done) | (simp [*]; done)), H', ⟨by have := HK1.out; omega⟩, ⟨by repeat (first | (with_reducible first | exact HB.out | apply pkA | apply pkN | apply pkD | refine below_set ?_ GE179.out) | exact HB.out)⟩⟩
       ·replace c7 := Bool.eq_false_iff.mpr c7
        subst c7
        rw [if_neg (show ¬ (false = true) by decide)] at H
        obtain rfl := Option.some.inj H
        have p178 : 0 ≤ (x10_1 : Int) := of_decide_eq_true (by first | (with_reducible assumption) | assumption)
        have q178 : x10_1 < (l0.length : Int) := of_decide_eq_true (by first | (with_reducible assumption) | assumption)
        obtain ⟨ad178, e178, hx178_0, hx178_1, hx178_2, hx178_3, hx178_4, hx178_5, hx178_6, hx178_7, hx178_8⟩ := at_T95 HR0.out x10_1 p178 q178
        cases e178
        obtain ⟨hx178_0, hx178_1, hx178_2, hx178_3, hx178_4, hx178_5, hx178_6, hx178_7, hx178_8⟩ := pk_up9 HB.out hx178_0 hx178_1 hx178_2 hx178_3 hx178_4 hx178_5 hx178_6 hx178_7 hx178_8
        replace p178 := eq_true p178
        replace q178 := eq_true q178
        try go_wp2_with (first | ((with_reducible refine gate_dst (N := 4) rfl ?_); refine box_event ?hg (N := 4) ?hd (cs := #[.int .i64 0, .int .i64 0, .int .i64 0, .int .i64 0, .int .i64 0, .string (⟨#[]⟩ : ByteArray), .string (⟨#[]⟩ : ByteArray), .string (⟨#[]⟩ : ByteArray), .string (⟨#[]⟩ : ByteArray)]) (t := 95) ?hr ?_; (case hd => rfl); (case hg => rfl); (case hr => first | (go_simp; done) | (go_simp; rfl)); intro gb179 hg w31 hbox hb; have n0_ := Aside0.mk (below_step (by repeat (first | (with_reducible first | exact HB.out | apply pkA | apply pkN | apply pkD) | exact HB.out)) hb); have n1_ := Aside0.mk (hbox); have n2_ := Aside0.mk ((by rw [hg]; exact (below_size (by repeat (first | (with_reducible first | exact HB.out | apply pkA | apply pkN | apply pkD) | exact HB.out))) : w.heap.size ≤ gb179)); have n3_ := Aside0.mk ((by rw [hg]; exact (below_size (by repeat (first | (with_reducible first | exact HB.out | apply pkA | apply pkN | apply pkD) | exact HB.out))) : w.heap.size ≤ gb179)); clear HB; have HB := n0_; have BK179 := n1_; have GW179 := n2_; have GE179 := n3_; clear n0_ n1_ n2_ n3_; clear hb hbox hg; obtain ⟨hcz32_0, hcz32_1, hcz32_2, hcz32_3, hcz32_4, hcz32_5, hcz32_6, hcz32_7, hcz32_8⟩ := pk_cells9 BK179.out; have hfz32_0 := blk_frozen BK179.out))
        have n0_ : Aside0 ((((((((((w31.setCell ⟨gb179, 0, none⟩ (.int .i64 ((rd_T95 l0 x10_1).f0.f0))).setCell ⟨gb179, 1, none⟩ (.int .i64 ((rd_T95 l0 x10_1).f0.f1))).setCell ⟨gb179, 2, none⟩ (.int .i64 ((rd_T95 l0 x10_1).f1))).setCell ⟨gb179, 3, none⟩ (.int .i64 ((rd_T95 l0 x10_1).f2))).setCell ⟨gb179, 4, none⟩ (.int .i64 ((rd_T95 l0 x10_1).f3))).setCell ⟨gb179, 5, none⟩ (.string ((rd_T95 l0 x10_1).f4.f0))).setCell ⟨gb179, 6, none⟩ (.string ((rd_T95 l0 x10_1).f4.f1))).setCell ⟨gb179, 7, none⟩ (.string ((rd_T95 l0 x10_1).f5))).setCell ⟨gb179, 8, none⟩ (.string ((rd_T95 l0 x10_1).f6))).heap[gb179]? = some (.cells #[.int .i64 ((rd_T95 l0 x10_1).f0.f0), .int .i64 ((rd_T95 l0 x10_1).f0.f1), .int .i64 ((rd_T95 l0 x10_1).f1), .int .i64 ((rd_T95 l0 x10_1).f2), .int .i64 ((rd_T95 l0 x10_1).f3), .string ((rd_T95 l0 x10_1).f4.f0), .string ((rd_T95 l0 x10_1).f4.f1), .string ((rd_T95 l0 x10_1).f5), .string ((rd_T95 l0 x10_1).f6)] 95 (0, 0))) := ⟨by apply pk_puts9; (with_reducible repeat (first | refine pkd ?_ _ | refine pke ?_ | refine pkf ?_ _)); exact BK179.out⟩
        have n1_ : Aside0 (Below w.heap.size w (((((((((w31.setCell ⟨gb179, 0, none⟩ (.int .i64 ((rd_T95 l0 x10_1).f0.f0))).setCell ⟨gb179, 1, none⟩ (.int .i64 ((rd_T95 l0 x10_1).f0.f1))).setCell ⟨gb179, 2, none⟩ (.int .i64 ((rd_T95 l0 x10_1).f1))).setCell ⟨gb179, 3, none⟩ (.int .i64 ((rd_T95 l0 x10_1).f2))).setCell ⟨gb179, 4, none⟩ (.int .i64 ((rd_T95 l0 x10_1).f3))).setCell ⟨gb179, 5, none⟩ (.string ((rd_T95 l0 x10_1).f4.f0))).setCell ⟨gb179, 6, none⟩ (.string ((rd_T95 l0 x10_1).f4.f1))).setCell ⟨gb179, 7, none⟩ (.string ((rd_T95 l0 x10_1).f5))).setCell ⟨gb179, 8, none⟩ (.string ((rd_T95 l0 x10_1).f6)))) := ⟨by repeat (first | (with_reducible first | exact HB.out | apply pkA | apply pkN | apply pkD | refine below_set ?_ GE179.out) | exact HB.out)⟩
        (try clear BK179)
        (try clear HB)
        generalize (((((((((w31.setCell ⟨gb179, 0, none⟩ (.int .i64 ((rd_T95 l0 x10_1).f0.f0))).setCell ⟨gb179, 1, none⟩ (.int .i64 ((rd_T95 l0 x10_1).f0.f1))).setCell ⟨gb179, 2, none⟩ (.int .i64 ((rd_T95 l0 x10_1).f1))).setCell ⟨gb179, 3, none⟩ (.int .i64 ((rd_T95 l0 x10_1).f2))).setCell ⟨gb179, 4, none⟩ (.int .i64 ((rd_T95 l0 x10_1).f3))).setCell ⟨gb179, 5, none⟩ (.string ((rd_T95 l0 x10_1).f4.f0))).setCell ⟨gb179, 6, none⟩ (.string ((rd_T95 l0 x10_1).f4.f1))).setCell ⟨gb179, 7, none⟩ (.string ((rd_T95 l0 x10_1).f5))).setCell ⟨gb179, 8, none⟩ (.string ((rd_T95 l0 x10_1).f6))) = w33 at n0_ n1_ ⊢
        have BK179 := n0_
        have HB := n1_
        clear n0_ n1_
        have n0_ := Aside0.mk (pke BK179.out)
        have n1_ := Aside0.mk (pkD HB.out)
        clear BK179
        clear HB
        have BK179 := n0_
        have HB := n1_
        clear n0_ n1_
        refine start_ (n := 19) (S := fun w' => w'.cell? ⟨gb179, 0, none⟩ = some (.int .i64 ((rd_T95 l0 x10_1).f0.f0)) ∧ w'.cell? ⟨gb179, 1, none⟩ = some (.int .i64 ((rd_T95 l0 x10_1).f0.f1)) ∧ w'.cell? ⟨gb179, 2, none⟩ = some (.int .i64 ((rd_T95 l0 x10_1).f1)) ∧ w'.cell? ⟨gb179, 3, none⟩ = some (.int .i64 ((rd_T95 l0 x10_1).f2)) ∧ w'.cell? ⟨gb179, 4, none⟩ = some (.int .i64 ((rd_T95 l0 x10_1).f3)) ∧ w'.cell? ⟨gb179, 5, none⟩ = some (.string ((rd_T95 l0 x10_1).f4.f0)) ∧ w'.cell? ⟨gb179, 6, none⟩ = some (.string ((rd_T95 l0 x10_1).f4.f1)) ∧ w'.cell? ⟨gb179, 7, none⟩ = some (.string ((rd_T95 l0 x10_1).f5)) ∧ w'.cell? ⟨gb179, 8, none⟩ = some (.string ((rd_T95 l0 x10_1).f6))) (ds := []) pkb19_0 (by kernel_rfl) rfl rfl ⟨(blk_cell BK179.out 0).trans rfl, (blk_cell BK179.out 1).trans rfl, (blk_cell BK179.out 2).trans rfl, (blk_cell BK179.out 3).trans rfl, (blk_cell BK179.out 4).trans rfl, (blk_cell BK179.out 5).trans rfl, (blk_cell BK179.out 6).trans rfl, (blk_cell BK179.out 7).trans rfl, (blk_cell BK179.out 8).trans rfl⟩ (fun hHeld => ?_); refine with_tabW spec_GoodLog.tab6 spec_GoodLog.bits6 (fun HT_ HW_ => ?_)
        generalize w33.drew = w34 at BK179 HB hHeld ⊢
        refine take_ (i := 0) (N := some 15) (v := ?_) (a' := ?_) pkb19_1 rfl rfl (take_ofW HT_.out HW_.out (by kernel_rfl)) (fun _ _ _ h => h) (Or.inl ⟨by rfl, ?_⟩) hHeld ?_ ?_; rotate_left; (rintro w' ⟨s0, s1, s2, s3, s4, s5, s6, s7, s8⟩; go_simp; with_reducible rfl); rotate_left; (simp only [Act.put, pk1, pk2, pk3, i64_w, i32_w]; rfl)
        refine one_ (i := 1) (N := some 16) pkb19_2 rfl rfl (one_of HT_.out (by kernel_rfl)) (by decide) (fun K hK => ?_)
        refine goes_ Try.func92 (by kernel_rfl) rfl #[.agg #[.int .i64 ((rd_T95 l0 x10_1).f0.f0), .int .i64 ((rd_T95 l0 x10_1).f0.f1), .int .i64 ((rd_T95 l0 x10_1).f1), .int .i64 ((rd_T95 l0 x10_1).f2), .int .i64 ((rd_T95 l0 x10_1).f3), .string ((rd_T95 l0 x10_1).f4.f0), .string ((rd_T95 l0 x10_1).f4.f1), .string ((rd_T95 l0 x10_1).f5), .string ((rd_T95 l0 x10_1).f6)]] (by rfl) rfl rfl (by (try simp only [List.map_toArray, List.map_cons, List.map_nil]); first | done | rfl | (simp only [List.length_drop, List.length_take]; rfl)) ?_
        with_reducible refine (spec_GoodChange.calls k1 ((rd_T95 l0 x10_1).f0.f0) ((rd_T95 l0 x10_1).f0.f1) ((rd_T95 l0 x10_1).f1) ((rd_T95 l0 x10_1).f2) ((rd_T95 l0 x10_1).f3) ((rd_T95 l0 x10_1).f4.f0) ((rd_T95 l0 x10_1).f4.f1) ((rd_T95 l0 x10_1).f5) ((rd_T95 l0 x10_1).f6) false _ A6.out).mono ?_
        rintro e w35 ⟨rfl, hb⟩
        refine ⟨_, rfl, ?_⟩
        have n0_ := Aside0.mk (blk_below (g := gb179) (o := .cells #[.int .i64 ((rd_T95 l0 x10_1).f0.f0), .int .i64 ((rd_T95 l0 x10_1).f0.f1), .int .i64 ((rd_T95 l0 x10_1).f1), .int .i64 ((rd_T95 l0 x10_1).f2), .int .i64 ((rd_T95 l0 x10_1).f3), .string ((rd_T95 l0 x10_1).f4.f0), .string ((rd_T95 l0 x10_1).f4.f1), .string ((rd_T95 l0 x10_1).f5), .string ((rd_T95 l0 x10_1).f6)] 95 (0, 0)) (by (with_reducible repeat (first | refine pkd ?_ _ | refine pke ?_ | refine pkf ?_ _)); exact BK179.out) hb)
        have n1_ := Aside0.mk (below_step (by repeat (first | (with_reducible first | exact HB.out | apply pkA | apply pkN | apply pkD | refine below_set ?_ GE179.out) | exact HB.out)) hb)
        clear BK179
        clear HB
        have BK179 := n0_
        have HB := n1_
        clear n0_ n1_
        (try clear hb)
        (try clear hb2)
        (try clear hk)
        (try clear hi)
        refine hK.out _ _ ⟨(blk_cell BK179.out 0).trans rfl, (blk_cell BK179.out 1).trans rfl, (blk_cell BK179.out 2).trans rfl, (blk_cell BK179.out 3).trans rfl, (blk_cell BK179.out 4).trans rfl, (blk_cell BK179.out 5).trans rfl, (blk_cell BK179.out 6).trans rfl, (blk_cell BK179.out 7).trans rfl, (blk_cell BK179.out 8).trans rfl⟩ (fun hHeld => ?_)
        clear hK K
        refine norm_ (a' := ?_) ?_ ?_
        rotate_left
        ·show Act.put _ (some 16) _ = _
         simp only [Act.put, pk1, pk2, pk3, i64_w, i32_w]
         rfl
        refine pure_ (i := 2) (N := some 17) (v := ?_) (a' := ?_) pkb19_3 rfl rfl (any_of HT_.out (by kernel_rfl)) (fun _ _ _ h => h) (Or.inl ⟨by rfl, ?_⟩) ?_ ?_; rotate_left; (intro w'; go_simp; with_reducible rfl); rotate_left; (simp only [Act.put, pk1, pk2, pk3, i64_w, i32_w]; rfl)
        refine pure_ (i := 3) (N := some 18) (v := ?_) (a' := ?_) pkb19_4 rfl rfl (any_of HT_.out (by kernel_rfl)) (fun _ _ _ h => h) (Or.inl ⟨by rfl, ?_⟩) ?_ ?_; rotate_left; (intro w'; go_simp; with_reducible rfl); rotate_left; (simp only [Act.put, pk1, pk2, pk3, i64_w, i32_w]; rfl)
        refine pure_ (i := 4) (N := some 19) (v := undef) (a' := ?_) pkb19_5 rfl rfl (any_of HT_.out (by kernel_rfl)) (fun _ _ _ h => h) (Or.inr ⟨by rfl, rfl⟩) ?_ ?_; rotate_left; (simp only [Act.put, pk1, pk2, pk3, i64_w, i32_w]; rfl)
        refine pure_ (i := 5) (N := some 20) (v := undef) (a' := ?_) pkb19_6 rfl rfl (any_of HT_.out (by kernel_rfl)) (fun _ _ _ h => h) (Or.inr ⟨by rfl, rfl⟩) ?_ ?_; rotate_left; (simp only [Act.put, pk1, pk2, pk3, i64_w, i32_w]; rfl)
        refine pure_ (i := 6) (N := some 21) (v := undef) (a' := ?_) pkb19_7 rfl rfl (any_of HT_.out (by kernel_rfl)) (fun _ _ _ h => h) (Or.inr ⟨by rfl, rfl⟩) ?_ ?_; rotate_left; (simp only [Act.put, pk1, pk2, pk3, i64_w, i32_w]; rfl)
        refine pure_ (i := 7) (N := some 22) (v := undef) (a' := ?_) pkb19_8 rfl rfl (any_of HT_.out (by kernel_rfl)) (fun _ _ _ h => h) (Or.inr ⟨by rfl, rfl⟩) ?_ ?_; rotate_left; (simp only [Act.put, pk1, pk2, pk3, i64_w, i32_w]; rfl)
        refine pure_ (i := 8) (N := some 23) (v := undef) (a' := ?_) pkb19_9 rfl rfl (any_of HT_.out (by kernel_rfl)) (fun _ _ _ h => h) (Or.inr ⟨by rfl, rfl⟩) ?_ ?_; rotate_left; (simp only [Act.put, pk1, pk2, pk3, i64_w, i32_w]; rfl)
        refine pure_ (i := 9) (N := some 24) (v := undef) (a' := ?_) pkb19_10 rfl rfl (any_of HT_.out (by kernel_rfl)) (fun _ _ _ h => h) (Or.inr ⟨by rfl, rfl⟩) ?_ ?_; rotate_left; (simp only [Act.put, pk1, pk2, pk3, i64_w, i32_w]; rfl)
        refine pure_ (i := 10) (N := some 25) (v := undef) (a' := ?_) pkb19_11 rfl rfl (any_of HT_.out (by kernel_rfl)) (fun _ _ _ h => h) (Or.inr ⟨by rfl, rfl⟩) ?_ ?_; rotate_left; (simp only [Act.put, pk1, pk2, pk3, i64_w, i32_w]; rfl)
        refine pure_ (i := 11) (N := some 26) (v := undef) (a' := ?_) pkb19_12 rfl rfl (any_of HT_.out (by kernel_rfl)) (fun _ _ _ h => h) (Or.inr ⟨by rfl, rfl⟩) ?_ ?_; rotate_left; (simp only [Act.put, pk1, pk2, pk3, i64_w, i32_w]; rfl)
        refine pure_ (i := 12) (N := some 27) (v := undef) (a' := ?_) pkb19_13 rfl rfl (any_of HT_.out (by kernel_rfl)) (fun _ _ _ h => h) (Or.inr ⟨by rfl, rfl⟩) ?_ ?_; rotate_left; (simp only [Act.put, pk1, pk2, pk3, i64_w, i32_w]; rfl)
        refine pure_ (i := 13) (N := some 28) (v := undef) (a' := ?_) pkb19_14 rfl rfl (any_of HT_.out (by kernel_rfl)) (fun _ _ _ h => h) (Or.inr ⟨by rfl, rfl⟩) ?_ ?_; rotate_left; (simp only [Act.put, pk1, pk2, pk3, i64_w, i32_w]; rfl)
        refine pure_ (i := 14) (N := some 29) (v := undef) (a' := ?_) pkb19_15 rfl rfl (any_of HT_.out (by kernel_rfl)) (fun _ _ _ h => h) (Or.inr ⟨by rfl, rfl⟩) ?_ ?_; rotate_left; (simp only [Act.put, pk1, pk2, pk3, i64_w, i32_w]; rfl)
        refine pure_ (i := 15) (N := some 30) (v := undef) (a' := ?_) pkb19_16 rfl rfl (any_of HT_.out (by kernel_rfl)) (fun _ _ _ h => h) (Or.inr ⟨by rfl, rfl⟩) ?_ ?_; rotate_left; (simp only [Act.put, pk1, pk2, pk3, i64_w, i32_w]; rfl)
        refine pure_ (i := 16) (N := some 31) (v := undef) (a' := ?_) pkb19_17 rfl rfl (any_of HT_.out (by kernel_rfl)) (fun _ _ _ h => h) (Or.inr ⟨by rfl, rfl⟩) ?_ ?_; rotate_left; (simp only [Act.put, pk1, pk2, pk3, i64_w, i32_w]; rfl)
        refine pure_ (i := 17) (N := some 32) (v := undef) (a' := ?_) pkb19_18 rfl rfl (any_of HT_.out (by kernel_rfl)) (fun _ _ _ h => h) (Or.inr ⟨by rfl, rfl⟩) ?_ ?_; rotate_left; (simp only [Act.put, pk1, pk2, pk3, i64_w, i32_w]; rfl)
        refine pure_ (i := 18) (N := some 33) (v := ?_) (a' := ?_) pkb19_19 rfl rfl (any_of HT_.out (by kernel_rfl)) (fun _ _ _ h => h) (Or.inl ⟨by rfl, ?_⟩) ?_ ?_; rotate_left; (intro w'; go_simp; with_reducible rfl); rotate_left; (simp only [Act.put, pk1, pk2, pk3, i64_w, i32_w]; rfl)
        refine done_ (done_of HT_.out (by kernel_rfl)) ?_
        try go_wp2
        go_ret
        exact ⟨by first | rfl | (simp [errW_none, errW_some] <;> rfl) | (simp [*, errW_none, errW_some] <;> rfl), by repeat (first | (with_reducible first | exact HB.out | apply pkA | apply pkN | apply pkD | refine below_set ?_ GE179.out) | exact HB.out)⟩
      ·rw [if_neg c5] at H
       exact absurd H (by simp)
     ·rw [if_neg c4] at H
      exact absurd H (by simp)
    ·rw [if_neg c3] at H
     have c3b0 : decide (x10_1 < (l0.length : Int)) = false := decide_eq_false c3
     clear c3
     obtain rfl := Option.some.inj H
     go_wp2
     go_ret
     exact ⟨by first | rfl | (simp [errW_none, errW_some] <;> rfl) | (simp [*, errW_none, errW_some] <;> rfl), by repeat (first | (with_reducible first | exact HB.out | apply pkA | apply pkN | apply pkD) | exact HB.out)⟩

end Go.Proofs.Ytcgiegkcmofhhab.PFnExactMissing
