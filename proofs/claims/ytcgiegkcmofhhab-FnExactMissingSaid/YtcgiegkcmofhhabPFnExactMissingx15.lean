-- Written for this claim by a program of this session, which goes by the kit's print and takes contracts proved by hand.
import Derived.Test.YtcgiegkcmofhhabPFnExactMissingx0
import Derived.Test.YtcgiegkcmofhhabPFnExactMissingx4
namespace Go.Proofs.Ytcgiegkcmofhhab.PFnExactMissing
open Go.RowKit Go.Proofs.YtcgiegkcmofhhabW.PrintWords Go.Proofs.YtcgiegkcmofhhabW.PrintLast Go.Proofs.YtcgiegkcmofhhabW.PrintMore
attribute [local go_sem] max2_int min2_int max_two min_two max_three min_three max_four min_four   -- for this text's walks alone
set_option linter.unusedVariables false
set_option linter.unusedSimpArgs false

/-! ### laws_heldDirChangeS: function 35 -/
def laws_heldDirChangeS.l0 : Nat → List (S95) → Int → Int → Option (Int)
 | 0, _, _, _ => none
 | k + 1, x0, x1, x5 => if x5 < (x0.length : Int) then (if 0 ≤ x5 then (if ((rd_T95 x0 x5).f0.f0) = x1 then (if ((rd_T95 x0 x5).f0.f1) = (wrap64 (x1 + 1)) then (if ((rd_T95 x0 x5).f1) = (wrap64 ((wrap64 (x1 + 1)) + 1)) then (if ((rd_T95 x0 x5).f2) = (wrap64 ((wrap64 ((wrap64 (x1 + 1)) + 1)) + 1)) then (if ((rd_T95 x0 x5).f3) = (wrap64 ((wrap64 ((wrap64 ((wrap64 (x1 + 1)) + 1)) + 1)) + 1)) then ((laws_markText.f k (wrap64 ((wrap64 ((wrap64 ((wrap64 ((wrap64 (x1 + 1)) + 1)) + 1)) + 1)) + 1))).bind fun t239 => (if ((rd_T95 x0 x5).f4.f0).toList = t239.toList then ((laws_markText.f k (wrap64 ((wrap64 ((wrap64 ((wrap64 ((wrap64 ((wrap64 (x1 + 1)) + 1)) + 1)) + 1)) + 1)) + 1))).bind fun t241 => (if ((rd_T95 x0 x5).f4.f1).toList = t241.toList then ((laws_markText.f k (wrap64 ((wrap64 ((wrap64 ((wrap64 ((wrap64 ((wrap64 ((wrap64 (x1 + 1)) + 1)) + 1)) + 1)) + 1)) + 1)) + 1))).bind fun t243 => (if ((rd_T95 x0 x5).f5).toList = t243.toList then ((laws_markText.f k (wrap64 ((wrap64 ((wrap64 ((wrap64 ((wrap64 ((wrap64 ((wrap64 ((wrap64 (x1 + 1)) + 1)) + 1)) + 1)) + 1)) + 1)) + 1)) + 1))).bind fun t245 => (if ((rd_T95 x0 x5).f6).toList = t245.toList then (laws_heldDirChangeS.l0 k x0 (wrap64 ((wrap64 ((wrap64 ((wrap64 ((wrap64 ((wrap64 ((wrap64 ((wrap64 ((wrap64 (x1 + 1)) + 1)) + 1)) + 1)) + 1)) + 1)) + 1)) + 1)) + 1)) (wrap64 (x5 + 1))) else (some (-1)))) else (some (-1)))) else (some (-1)))) else (some (-1)))) else (some (-1))) else (some (-1))) else (some (-1))) else (some (-1))) else (some (-1))) else (none)) else (some x1)
def laws_heldDirChangeS.f (k : Nat) (l0 : List (S95)) (a1 : Int) : Option (Int) := laws_heldDirChangeS.l0 k l0 a1 0
theorem laws_heldDirChangeS.mono_l : ∀ k, (∀ y0 y1 y2, LeO (laws_heldDirChangeS.l0 k y0 y1 y2) (laws_heldDirChangeS.l0 (k + 1) y0 y1 y2))
 | 0 => fun _ _ _ r h => by simp [laws_heldDirChangeS.l0] at h
 | k + 1 => by
  have ih0 := laws_heldDirChangeS.mono_l k
  ·intro y0 y1 y2
   unfold laws_heldDirChangeS.l0
   repeat' first
   | (with_reducible exact ih0 _ _ _)
   | (with_reducible exact laws_markText.mono _ _)
   | (with_reducible exact LeO.refl _)
   | (with_reducible exact LeO.none _)
   | (with_reducible refine LeO.ite ?_ ?_)
   | (with_reducible refine LeO.bind ?_ (fun _ => ?_))
   | exact ih0 _ _ _
   | exact laws_markText.mono _ _
   | exact LeO.none _
   | refine LeO.ite ?_ ?_
   | refine LeO.bind ?_ (fun _ => ?_)
theorem laws_heldDirChangeS.mono : ∀ a0 a1 k, LeO (laws_heldDirChangeS.f k a0 a1) (laws_heldDirChangeS.f (k + 1) a0 a1) := by
 intro a0 a1 k
 have ih0 := laws_heldDirChangeS.mono_l k
 unfold laws_heldDirChangeS.f
 repeat' first
   | (with_reducible exact ih0 _ _ _)
   | (with_reducible exact laws_markText.mono _ _)
   | (with_reducible exact LeO.refl _)
   | (with_reducible exact LeO.none _)
   | (with_reducible refine LeO.ite ?_ ?_)
   | (with_reducible refine LeO.bind ?_ (fun _ => ?_))
   | exact ih0 _ _ _
   | exact laws_markText.mono _ _
   | exact LeO.none _
   | refine LeO.ite ?_ ?_
   | refine LeO.bind ?_ (fun _ => ?_)
def laws_heldDirChangeS.T19 : Bool × List (List Nat × List Nat) := (true, [([], []), ([], []), ([0, 1], [0, 1]), ([2], [2]), ([3], [3]), ([4], [4]), ([], []), ([6], [6]), ([5, 7], [5, 7])])
def laws_heldDirChangeS.B19 : List Nat := [0, 0, 3, 7, 15, 31, 0, 64, 255]
theorem laws_heldDirChangeS.tab19 : rtab .any (opsOf Try.f35 19) = laws_heldDirChangeS.T19 := by kernel_rfl
theorem laws_heldDirChangeS.bits19 : waitsOk laws_heldDirChangeS.T19.2 laws_heldDirChangeS.B19 = true := by kernel_rfl
def laws_heldDirChangeS.T22 : Bool × List (List Nat × List Nat) := (true, [([], []), ([], []), ([0, 1], [0, 1]), ([2], [2]), ([3], [3]), ([4], [4]), ([], []), ([6], [6]), ([5, 7], [5, 7])])
def laws_heldDirChangeS.B22 : List Nat := [0, 0, 3, 7, 15, 31, 0, 64, 255]
theorem laws_heldDirChangeS.tab22 : rtab .any (opsOf Try.f35 22) = laws_heldDirChangeS.T22 := by kernel_rfl
theorem laws_heldDirChangeS.bits22 : waitsOk laws_heldDirChangeS.T22.2 laws_heldDirChangeS.B22 = true := by kernel_rfl
def laws_heldDirChangeS.T25 : Bool × List (List Nat × List Nat) := (true, [([], []), ([], []), ([0, 1], [0, 1]), ([2], [2]), ([3], [3]), ([], []), ([5], [5]), ([4, 6], [4, 6])])
def laws_heldDirChangeS.B25 : List Nat := [0, 0, 3, 7, 15, 0, 32, 127]
theorem laws_heldDirChangeS.tab25 : rtab .any (opsOf Try.f35 25) = laws_heldDirChangeS.T25 := by kernel_rfl
theorem laws_heldDirChangeS.bits25 : waitsOk laws_heldDirChangeS.T25.2 laws_heldDirChangeS.B25 = true := by kernel_rfl
def laws_heldDirChangeS.T28 : Bool × List (List Nat × List Nat) := (true, [([], []), ([], []), ([0, 1], [0, 1]), ([2], [2]), ([3], [3]), ([], []), ([5], [5]), ([4, 6], [4, 6])])
def laws_heldDirChangeS.B28 : List Nat := [0, 0, 3, 7, 15, 0, 32, 127]
theorem laws_heldDirChangeS.tab28 : rtab .any (opsOf Try.f35 28) = laws_heldDirChangeS.T28 := by kernel_rfl
theorem laws_heldDirChangeS.bits28 : waitsOk laws_heldDirChangeS.T28.2 laws_heldDirChangeS.B28 = true := by kernel_rfl
set_option maxHeartbeats 8000000 in
set_option maxRecDepth 100000 in
theorem laws_heldDirChangeS.calls (k : Nat) (A0 : Option Addr) (c0 : Nat) (l0 : List (S95)) (a1 : Int) (r : Int) (w : World) (hr0 : Kd.C k95 w A0 l0.length l0) (hc0 : l0.length ≤ c0) (h : laws_heldDirChangeS.f k l0 a1 = some r) :
  Calls Try.prog 35 #[.slice A0 l0.length c0, .int .i64 a1] w fun e w' => e = .returned (.int .i64 r) ∧ Below w.heap.size w w' := by
 have HR0 := Aside0.mk hr0
 have HC0 := Aside0.mk hc0
 clear hr0 hc0
 have HB := Aside0.mk (Below.refl w.heap.size w)
 have H : (laws_heldDirChangeS.l0 k l0 a1 0) = some r := h
 clear h
 have H' := Aside0.mk H
 clear H
 go_enter Try.func35, Try.ntmps35
 go_wp2
 go_loopg [1, 5] k (fun kq v1 v5 w' => ∃ (x1_1 : Int) (x5_1 : Int), v1 = .int .i64 x1_1 ∧ v5 = .int .i64 x5_1 ∧ Aside0 (laws_heldDirChangeS.l0 kq l0 x1_1 x5_1 = some r) ∧ Aside0 (kq ≤ k) ∧ Aside0 (Below w.heap.size w w'))
 case atStart => exact ⟨(a1), (0), (by first | rfl | (simp; done) | (simp [pw_ne_nil, pw_eq_nil]; done) | (simp [*]; done)), (by first | rfl | (simp; done) | (simp [pw_ne_nil, pw_eq_nil]; done) | (simp [*]; done)), H', ⟨Nat.le_refl _⟩, ⟨by repeat (first | (with_reducible first | exact HB.out | apply pkA | apply pkN | apply pkD) | exact HB.out)⟩⟩
 case round =>
  clear H'
  try clear p2
  obtain ⟨x1_1, x5_1, rfl, rfl, HA, HK1, HB⟩ := hrel
  cases gk with
  | zero => exact absurd HA.out (by simp [laws_heldDirChangeS.l0])
  | succ k1 =>
   have H := HA.out
   clear HA
   simp only [laws_heldDirChangeS.l0] at H
   by_cases c3 : x5_1 < (l0.length : Int)
   ·rw [if_pos c3] at H
    have c3b0 : decide (x5_1 < (l0.length : Int)) = true := decide_eq_true c3
    clear c3
    by_cases c4 : 0 ≤ x5_1
    ·rw [if_pos c4] at H
     have c4b0 : decide (0 ≤ x5_1) = true := decide_eq_true c4
     clear c4
     by_cases c5 : ((rd_T95 l0 x5_1).f0.f0) = x1_1
     ·rw [if_pos c5] at H
      have c5b0 : (((rd_T95 l0 x5_1).f0.f0) == x1_1) = true := beq_iff_eq.mpr c5
      have c5b1 : (((rd_T95 l0 x5_1).f0.f0) != x1_1) = false := bne_eq_false_iff_eq.mpr c5
      clear c5
      by_cases c6 : ((rd_T95 l0 x5_1).f0.f1) = (wrap64 (x1_1 + 1))
      ·rw [if_pos c6] at H
       have c6b0 : (((rd_T95 l0 x5_1).f0.f1) == (wrap64 (x1_1 + 1))) = true := beq_iff_eq.mpr c6
       have c6b1 : (((rd_T95 l0 x5_1).f0.f1) != (wrap64 (x1_1 + 1))) = false := bne_eq_false_iff_eq.mpr c6
       clear c6
       by_cases c7 : ((rd_T95 l0 x5_1).f1) = (wrap64 ((wrap64 (x1_1 + 1)) + 1))
       ·rw [if_pos c7] at H
        have c7b0 : (((rd_T95 l0 x5_1).f1) == (wrap64 ((wrap64 (x1_1 + 1)) + 1))) = true := beq_iff_eq.mpr c7
        have c7b1 : (((rd_T95 l0 x5_1).f1) != (wrap64 ((wrap64 (x1_1 + 1)) + 1))) = false := bne_eq_false_iff_eq.mpr c7
        clear c7
        by_cases c8 : ((rd_T95 l0 x5_1).f2) = (wrap64 ((wrap64 ((wrap64 (x1_1 + 1)) + 1)) + 1))
        ·rw [if_pos c8] at H
         have c8b0 : (((rd_T95 l0 x5_1).f2) == (wrap64 ((wrap64 ((wrap64 (x1_1 + 1)) + 1)) + 1))) = true := beq_iff_eq.mpr c8
         have c8b1 : (((rd_T95 l0 x5_1).f2) != (wrap64 ((wrap64 ((wrap64 (x1_1 + 1)) + 1)) + 1))) = false := bne_eq_false_iff_eq.mpr c8
         clear c8
         by_cases c9 : ((rd_T95 l0 x5_1).f3) = (wrap64 ((wrap64 ((wrap64 ((wrap64 (x1_1 + 1)) + 1)) + 1)) + 1))
         ·rw [if_pos c9] at H
          have c9b0 : (((rd_T95 l0 x5_1).f3) == (wrap64 ((wrap64 ((wrap64 ((wrap64 (x1_1 + 1)) + 1)) + 1)) + 1))) = true := beq_iff_eq.mpr c9
          have c9b1 : (((rd_T95 l0 x5_1).f3) != (wrap64 ((wrap64 ((wrap64 ((wrap64 (x1_1 + 1)) + 1)) + 1)) + 1))) = false := bne_eq_false_iff_eq.mpr c9
          clear c9
          replace H := Option.bind_eq_some_iff.mp H
          obtain ⟨t239, A100, H⟩ := H
          try dsimp only at H
          have A10 := Aside0.mk A100
          clear A100
          by_cases c11 : ((rd_T95 l0 x5_1).f4.f0).toList = t239.toList
          ·rw [if_pos c11] at H
           have c11b0 : (((rd_T95 l0 x5_1).f4.f0).toList == t239.toList) = true := beq_iff_eq.mpr c11
           have c11b1 : (((rd_T95 l0 x5_1).f4.f0).toList != t239.toList) = false := bne_eq_false_iff_eq.mpr c11
           clear c11
           replace H := Option.bind_eq_some_iff.mp H
           obtain ⟨t241, A120, H⟩ := H
           try dsimp only at H
           have A12 := Aside0.mk A120
           clear A120
           by_cases c13 : ((rd_T95 l0 x5_1).f4.f1).toList = t241.toList
           ·rw [if_pos c13] at H
            have c13b0 : (((rd_T95 l0 x5_1).f4.f1).toList == t241.toList) = true := beq_iff_eq.mpr c13
            have c13b1 : (((rd_T95 l0 x5_1).f4.f1).toList != t241.toList) = false := bne_eq_false_iff_eq.mpr c13
            clear c13
            replace H := Option.bind_eq_some_iff.mp H
            obtain ⟨t243, A140, H⟩ := H
            try dsimp only at H
            have A14 := Aside0.mk A140
            clear A140
            by_cases c15 : ((rd_T95 l0 x5_1).f5).toList = t243.toList
            ·rw [if_pos c15] at H
             have c15b0 : (((rd_T95 l0 x5_1).f5).toList == t243.toList) = true := beq_iff_eq.mpr c15
             have c15b1 : (((rd_T95 l0 x5_1).f5).toList != t243.toList) = false := bne_eq_false_iff_eq.mpr c15
             clear c15
             replace H := Option.bind_eq_some_iff.mp H
             obtain ⟨t245, A160, H⟩ := H
             try dsimp only at H
             have A16 := Aside0.mk A160
             clear A160
             by_cases c17 : ((rd_T95 l0 x5_1).f6).toList = t245.toList
             ·rw [if_pos c17] at H
              have c17b0 : (((rd_T95 l0 x5_1).f6).toList == t245.toList) = true := beq_iff_eq.mpr c17
              have c17b1 : (((rd_T95 l0 x5_1).f6).toList != t245.toList) = false := bne_eq_false_iff_eq.mpr c17
              clear c17
              have H' := Aside0.mk H
              clear H
              have p233 : 0 ≤ (x5_1 : Int) := of_decide_eq_true (by first | (with_reducible assumption) | assumption)
              have q233 : x5_1 < (l0.length : Int) := of_decide_eq_true (by first | (with_reducible assumption) | assumption)
              obtain ⟨ad233, e233, hx233_0, hx233_1, hx233_2, hx233_3, hx233_4, hx233_5, hx233_6, hx233_7, hx233_8⟩ := at_T95 HR0.out x5_1 p233 q233
              cases e233
              obtain ⟨hx233_0, hx233_1, hx233_2, hx233_3, hx233_4, hx233_5, hx233_6, hx233_7, hx233_8⟩ := pk_up9 HB.out hx233_0 hx233_1 hx233_2 hx233_3 hx233_4 hx233_5 hx233_6 hx233_7 hx233_8
              replace p233 := eq_true p233
              replace q233 := eq_true q233
              have p234 : 0 ≤ (x5_1 : Int) := of_decide_eq_true (by first | (with_reducible assumption) | assumption)
              have q234 : x5_1 < (l0.length : Int) := of_decide_eq_true (by first | (with_reducible assumption) | assumption)
              obtain ⟨ad234, e234, hx234_0, hx234_1, hx234_2, hx234_3, hx234_4, hx234_5, hx234_6, hx234_7, hx234_8⟩ := at_T95 HR0.out x5_1 p234 q234
              obtain rfl : ad233 = ad234 := (by injection e234)
              obtain ⟨hx234_0, hx234_1, hx234_2, hx234_3, hx234_4, hx234_5, hx234_6, hx234_7, hx234_8⟩ := pk_up9 HB.out hx234_0 hx234_1 hx234_2 hx234_3 hx234_4 hx234_5 hx234_6 hx234_7 hx234_8
              replace p234 := eq_true p234
              replace q234 := eq_true q234
              have p235 : 0 ≤ (x5_1 : Int) := of_decide_eq_true (by first | (with_reducible assumption) | assumption)
              have q235 : x5_1 < (l0.length : Int) := of_decide_eq_true (by first | (with_reducible assumption) | assumption)
              obtain ⟨ad235, e235, hx235_0, hx235_1, hx235_2, hx235_3, hx235_4, hx235_5, hx235_6, hx235_7, hx235_8⟩ := at_T95 HR0.out x5_1 p235 q235
              obtain rfl : ad233 = ad235 := (by injection e235)
              obtain ⟨hx235_0, hx235_1, hx235_2, hx235_3, hx235_4, hx235_5, hx235_6, hx235_7, hx235_8⟩ := pk_up9 HB.out hx235_0 hx235_1 hx235_2 hx235_3 hx235_4 hx235_5 hx235_6 hx235_7 hx235_8
              replace p235 := eq_true p235
              replace q235 := eq_true q235
              have p236 : 0 ≤ (x5_1 : Int) := of_decide_eq_true (by first | (with_reducible assumption) | assumption)
              have q236 : x5_1 < (l0.length : Int) := of_decide_eq_true (by first | (with_reducible assumption) | assumption)
              obtain ⟨ad236, e236, hx236_0, hx236_1, hx236_2, hx236_3, hx236_4, hx236_5, hx236_6, hx236_7, hx236_8⟩ := at_T95 HR0.out x5_1 p236 q236
              obtain rfl : ad233 = ad236 := (by injection e236)
              obtain ⟨hx236_0, hx236_1, hx236_2, hx236_3, hx236_4, hx236_5, hx236_6, hx236_7, hx236_8⟩ := pk_up9 HB.out hx236_0 hx236_1 hx236_2 hx236_3 hx236_4 hx236_5 hx236_6 hx236_7 hx236_8
              replace p236 := eq_true p236
              replace q236 := eq_true q236
              have p237 : 0 ≤ (x5_1 : Int) := of_decide_eq_true (by first | (with_reducible assumption) | assumption)
              have q237 : x5_1 < (l0.length : Int) := of_decide_eq_true (by first | (with_reducible assumption) | assumption)
              obtain ⟨ad237, e237, hx237_0, hx237_1, hx237_2, hx237_3, hx237_4, hx237_5, hx237_6, hx237_7, hx237_8⟩ := at_T95 HR0.out x5_1 p237 q237
              obtain rfl : ad233 = ad237 := (by injection e237)
              obtain ⟨hx237_0, hx237_1, hx237_2, hx237_3, hx237_4, hx237_5, hx237_6, hx237_7, hx237_8⟩ := pk_up9 HB.out hx237_0 hx237_1 hx237_2 hx237_3 hx237_4 hx237_5 hx237_6 hx237_7 hx237_8
              replace p237 := eq_true p237
              replace q237 := eq_true q237
              try go_wp2
              have n0_ := Aside0.mk (pkD HB.out)
              clear HB
              have HB := n0_
              clear n0_
              have p238 : 0 ≤ (x5_1 : Int) := of_decide_eq_true (by first | (with_reducible assumption) | assumption)
              have q238 : x5_1 < (l0.length : Int) := of_decide_eq_true (by first | (with_reducible assumption) | assumption)
              obtain ⟨ad238, e238, hx238_0, hx238_1, hx238_2, hx238_3, hx238_4, hx238_5, hx238_6, hx238_7, hx238_8⟩ := at_T95 HR0.out x5_1 p238 q238
              have hw238_8 := hx238_8
              have hw238_7 := hx238_7
              have hw238_6 := hx238_6
              have hw238_5 := hx238_5
              have hw238_4 := hx238_4
              have hw238_3 := hx238_3
              have hw238_2 := hx238_2
              have hw238_1 := hx238_1
              have hw238_0 := hx238_0
              obtain rfl : ad233 = ad238 := (by injection e238)
              obtain ⟨hx238_0, hx238_1, hx238_2, hx238_3, hx238_4, hx238_5, hx238_6, hx238_7, hx238_8⟩ := pk_up9 HB.out hx238_0 hx238_1 hx238_2 hx238_3 hx238_4 hx238_5 hx238_6 hx238_7 hx238_8
              replace p238 := eq_true p238
              replace q238 := eq_true q238
              refine start_ (n := 9) (S := fun w' => w'.cell? (ad233.add ((x5_1).toNat * 9)) = some (.int .i64 ((rd_T95 l0 x5_1).f0.f0)) ∧ w'.cell? ⟨(ad233.add ((x5_1).toNat * 9)).block, (ad233.add ((x5_1).toNat * 9)).off + 1, none⟩ = some (.int .i64 ((rd_T95 l0 x5_1).f0.f1)) ∧ w'.cell? ⟨(ad233.add ((x5_1).toNat * 9)).block, (ad233.add ((x5_1).toNat * 9)).off + 2, none⟩ = some (.int .i64 ((rd_T95 l0 x5_1).f1)) ∧ w'.cell? ⟨(ad233.add ((x5_1).toNat * 9)).block, (ad233.add ((x5_1).toNat * 9)).off + 3, none⟩ = some (.int .i64 ((rd_T95 l0 x5_1).f2)) ∧ w'.cell? ⟨(ad233.add ((x5_1).toNat * 9)).block, (ad233.add ((x5_1).toNat * 9)).off + 4, none⟩ = some (.int .i64 ((rd_T95 l0 x5_1).f3)) ∧ w'.cell? ⟨(ad233.add ((x5_1).toNat * 9)).block, (ad233.add ((x5_1).toNat * 9)).off + 5, none⟩ = some (.string ((rd_T95 l0 x5_1).f4.f0)) ∧ w'.cell? ⟨(ad233.add ((x5_1).toNat * 9)).block, (ad233.add ((x5_1).toNat * 9)).off + 6, none⟩ = some (.string ((rd_T95 l0 x5_1).f4.f1)) ∧ w'.cell? ⟨(ad233.add ((x5_1).toNat * 9)).block, (ad233.add ((x5_1).toNat * 9)).off + 7, none⟩ = some (.string ((rd_T95 l0 x5_1).f5)) ∧ w'.cell? ⟨(ad233.add ((x5_1).toNat * 9)).block, (ad233.add ((x5_1).toNat * 9)).off + 8, none⟩ = some (.string ((rd_T95 l0 x5_1).f6))) (ds := []) pkb9_0 (by kernel_rfl) rfl rfl ⟨((HB.out.cell (World.block_lt_of_cell? w _ hw238_0)).trans hw238_0), ((HB.out.cell (World.block_lt_of_cell? w _ hw238_1)).trans hw238_1), ((HB.out.cell (World.block_lt_of_cell? w _ hw238_2)).trans hw238_2), ((HB.out.cell (World.block_lt_of_cell? w _ hw238_3)).trans hw238_3), ((HB.out.cell (World.block_lt_of_cell? w _ hw238_4)).trans hw238_4), ((HB.out.cell (World.block_lt_of_cell? w _ hw238_5)).trans hw238_5), ((HB.out.cell (World.block_lt_of_cell? w _ hw238_6)).trans hw238_6), ((HB.out.cell (World.block_lt_of_cell? w _ hw238_7)).trans hw238_7), ((HB.out.cell (World.block_lt_of_cell? w _ hw238_8)).trans hw238_8)⟩ (fun hHeld => ?_); refine with_tabW laws_heldDirChangeS.tab19 laws_heldDirChangeS.bits19 (fun HT_ HW_ => ?_)
              generalize wr.drew = w18 at HB hx238_0 hx238_1 hx238_2 hx238_3 hx238_4 hx238_5 hx238_6 hx238_7 hx238_8 hHeld ⊢
              refine pure_ (i := 0) (N := some 59) (v := ?_) (a' := ?_) pkb9_1 rfl rfl (any_of HT_.out (by kernel_rfl)) (fun _ _ _ h => h) (Or.inl ⟨by rfl, ?_⟩) ?_ ?_; rotate_left; (intro w'; go_simp; with_reducible rfl); rotate_left; (simp only [Act.put, pk1, pk2, pk3, i64_w, i32_w]; rfl)
              refine pure_ (i := 1) (N := some 60) (v := ?_) (a' := ?_) pkb9_2 rfl rfl (any_of HT_.out (by kernel_rfl)) (fun _ _ _ h => h) (Or.inl ⟨by rfl, ?_⟩) ?_ ?_; rotate_left; (intro w'; go_simp; with_reducible rfl); rotate_left; (simp only [Act.put, pk1, pk2, pk3, i64_w, i32_w]; rfl)
              refine pure_ (i := 2) (N := some 61) (v := ?_) (a' := ?_) pkb9_3 rfl rfl (any_of HT_.out (by kernel_rfl)) (fun _ _ _ h => h) (Or.inl ⟨by rfl, ?_⟩) ?_ ?_; rotate_left; (intro w'; go_simp; with_reducible rfl); rotate_left; (simp only [Act.put, pk1, pk2, pk3, i64_w, i32_w]; rfl)
              refine pure_ (i := 3) (N := some 62) (v := ?_) (a' := ?_) pkb9_4 rfl rfl (any_of HT_.out (by kernel_rfl)) (fun _ _ _ h => h) (Or.inl ⟨by rfl, ?_⟩) ?_ ?_; rotate_left; (intro w'; go_simp; with_reducible rfl); rotate_left; (simp only [Act.put, pk1, pk2, pk3, i64_w, i32_w]; rfl)
              refine pure_ (i := 4) (N := some 63) (v := ?_) (a' := ?_) pkb9_5 rfl rfl (any_of HT_.out (by kernel_rfl)) (fun _ _ _ h => h) (Or.inl ⟨by rfl, ?_⟩) ?_ ?_; rotate_left; (intro w'; go_simp; with_reducible rfl); rotate_left; (simp only [Act.put, pk1, pk2, pk3, i64_w, i32_w]; rfl)
              refine pure_ (i := 6) (N := some 65) (v := ?_) (a' := ?_) #[true, true, true, true, true, false, true, false, false] rfl rfl (any_of HT_.out (by kernel_rfl)) (fun _ _ _ h => h) (Or.inl ⟨by rfl, ?_⟩) ?_ ?_; rotate_left; (intro w'; go_simp; with_reducible rfl); rotate_left; (simp only [Act.put, pk1, pk2, pk3, i64_w, i32_w]; rfl)
              refine take_ (i := 5) (N := some 64) (v := ?_) (a' := ?_) pkb9_7 rfl rfl (take_ofW HT_.out HW_.out (by kernel_rfl)) (fun _ _ _ h => h) (Or.inl ⟨by rfl, ?_⟩) hHeld ?_ ?_; rotate_left; (rintro w' ⟨s0, s1, s2, s3, s4, s5, s6, s7, s8⟩; go_simp; with_reducible rfl); rotate_left; (simp only [Act.put, pk1, pk2, pk3, i64_w, i32_w]; rfl)
              refine one_ (i := 7) (N := some 66) pkb9_8 rfl rfl (one_of HT_.out (by kernel_rfl)) (by decide) (fun K hK => ?_)
              refine goes_ Try.func67 (by kernel_rfl) rfl #[.int .i64 (wrap64 ((wrap64 ((wrap64 ((wrap64 ((wrap64 (x1_1 + 1)) + 1)) + 1)) + 1)) + 1))] (by rfl) rfl rfl (by (try simp only [List.map_toArray, List.map_cons, List.map_nil]); first | done | rfl | (simp only [List.length_drop, List.length_take]; rfl)) ?_
              with_reducible refine (laws_markText.calls k1 (wrap64 ((wrap64 ((wrap64 ((wrap64 ((wrap64 (x1_1 + 1)) + 1)) + 1)) + 1)) + 1)) t239 _ A10.out).mono ?_
              rintro e w19 ⟨rfl, hb⟩
              refine ⟨_, rfl, ?_⟩
              have n0_ := Aside0.mk (below_step (by repeat (first | (with_reducible first | exact HB.out | apply pkA | apply pkN | apply pkD) | exact HB.out)) hb)
              clear HB
              have HB := n0_
              clear n0_
              (try clear hb)
              (try clear hb2)
              (try clear hk)
              (try clear hi)
              refine hK.out _ _ ⟨((HB.out.cell (World.block_lt_of_cell? w _ hw238_0)).trans hw238_0), ((HB.out.cell (World.block_lt_of_cell? w _ hw238_1)).trans hw238_1), ((HB.out.cell (World.block_lt_of_cell? w _ hw238_2)).trans hw238_2), ((HB.out.cell (World.block_lt_of_cell? w _ hw238_3)).trans hw238_3), ((HB.out.cell (World.block_lt_of_cell? w _ hw238_4)).trans hw238_4), ((HB.out.cell (World.block_lt_of_cell? w _ hw238_5)).trans hw238_5), ((HB.out.cell (World.block_lt_of_cell? w _ hw238_6)).trans hw238_6), ((HB.out.cell (World.block_lt_of_cell? w _ hw238_7)).trans hw238_7), ((HB.out.cell (World.block_lt_of_cell? w _ hw238_8)).trans hw238_8)⟩ (fun hHeld => ?_)
              clear hK K
              refine norm_ (a' := ?_) ?_ ?_
              rotate_left
              ·show Act.put _ (some 66) _ = _
               simp only [Act.put, pk1, pk2, pk3, i64_w, i32_w]
               rfl
              refine pure_ (i := 8) (N := some 67) (v := ?_) (a' := ?_) pkb9_9 rfl rfl (any_of HT_.out (by kernel_rfl)) (fun _ _ _ h => h) (Or.inl ⟨by rfl, ?_⟩) ?_ ?_; rotate_left; (intro w'; go_simp; with_reducible rfl); rotate_left; (simp only [Act.put, pk1, pk2, pk3, i64_w, i32_w]; rfl)
              refine done_ (done_of HT_.out (by kernel_rfl)) ?_
              try go_wp2
              have n0_ := Aside0.mk (pkD HB.out)
              clear HB
              have HB := n0_
              clear n0_
              have p240 : 0 ≤ (x5_1 : Int) := of_decide_eq_true (by first | (with_reducible assumption) | assumption)
              have q240 : x5_1 < (l0.length : Int) := of_decide_eq_true (by first | (with_reducible assumption) | assumption)
              obtain ⟨ad240, e240, hx240_0, hx240_1, hx240_2, hx240_3, hx240_4, hx240_5, hx240_6, hx240_7, hx240_8⟩ := at_T95 HR0.out x5_1 p240 q240
              have hw240_8 := hx240_8
              have hw240_7 := hx240_7
              have hw240_6 := hx240_6
              have hw240_5 := hx240_5
              have hw240_4 := hx240_4
              have hw240_3 := hx240_3
              have hw240_2 := hx240_2
              have hw240_1 := hx240_1
              have hw240_0 := hx240_0
              obtain rfl : ad233 = ad240 := (by injection e240)
              obtain ⟨hx240_0, hx240_1, hx240_2, hx240_3, hx240_4, hx240_5, hx240_6, hx240_7, hx240_8⟩ := pk_up9 HB.out hx240_0 hx240_1 hx240_2 hx240_3 hx240_4 hx240_5 hx240_6 hx240_7 hx240_8
              replace p240 := eq_true p240
              replace q240 := eq_true q240
              refine start_ (n := 9) (S := fun w' => w'.cell? (ad233.add ((x5_1).toNat * 9)) = some (.int .i64 ((rd_T95 l0 x5_1).f0.f0)) ∧ w'.cell? ⟨(ad233.add ((x5_1).toNat * 9)).block, (ad233.add ((x5_1).toNat * 9)).off + 1, none⟩ = some (.int .i64 ((rd_T95 l0 x5_1).f0.f1)) ∧ w'.cell? ⟨(ad233.add ((x5_1).toNat * 9)).block, (ad233.add ((x5_1).toNat * 9)).off + 2, none⟩ = some (.int .i64 ((rd_T95 l0 x5_1).f1)) ∧ w'.cell? ⟨(ad233.add ((x5_1).toNat * 9)).block, (ad233.add ((x5_1).toNat * 9)).off + 3, none⟩ = some (.int .i64 ((rd_T95 l0 x5_1).f2)) ∧ w'.cell? ⟨(ad233.add ((x5_1).toNat * 9)).block, (ad233.add ((x5_1).toNat * 9)).off + 4, none⟩ = some (.int .i64 ((rd_T95 l0 x5_1).f3)) ∧ w'.cell? ⟨(ad233.add ((x5_1).toNat * 9)).block, (ad233.add ((x5_1).toNat * 9)).off + 5, none⟩ = some (.string ((rd_T95 l0 x5_1).f4.f0)) ∧ w'.cell? ⟨(ad233.add ((x5_1).toNat * 9)).block, (ad233.add ((x5_1).toNat * 9)).off + 6, none⟩ = some (.string ((rd_T95 l0 x5_1).f4.f1)) ∧ w'.cell? ⟨(ad233.add ((x5_1).toNat * 9)).block, (ad233.add ((x5_1).toNat * 9)).off + 7, none⟩ = some (.string ((rd_T95 l0 x5_1).f5)) ∧ w'.cell? ⟨(ad233.add ((x5_1).toNat * 9)).block, (ad233.add ((x5_1).toNat * 9)).off + 8, none⟩ = some (.string ((rd_T95 l0 x5_1).f6))) (ds := []) pkb9_0 (by kernel_rfl) rfl rfl ⟨((HB.out.cell (World.block_lt_of_cell? w _ hw240_0)).trans hw240_0), ((HB.out.cell (World.block_lt_of_cell? w _ hw240_1)).trans hw240_1), ((HB.out.cell (World.block_lt_of_cell? w _ hw240_2)).trans hw240_2), ((HB.out.cell (World.block_lt_of_cell? w _ hw240_3)).trans hw240_3), ((HB.out.cell (World.block_lt_of_cell? w _ hw240_4)).trans hw240_4), ((HB.out.cell (World.block_lt_of_cell? w _ hw240_5)).trans hw240_5), ((HB.out.cell (World.block_lt_of_cell? w _ hw240_6)).trans hw240_6), ((HB.out.cell (World.block_lt_of_cell? w _ hw240_7)).trans hw240_7), ((HB.out.cell (World.block_lt_of_cell? w _ hw240_8)).trans hw240_8)⟩ (fun hHeld => ?_); refine with_tabW laws_heldDirChangeS.tab22 laws_heldDirChangeS.bits22 (fun HT_ HW_ => ?_)
              generalize w19.drew = w20 at HB hx240_0 hx240_1 hx240_2 hx240_3 hx240_4 hx240_5 hx240_6 hx240_7 hx240_8 hHeld ⊢
              refine pure_ (i := 0) (N := some 70) (v := ?_) (a' := ?_) pkb9_1 rfl rfl (any_of HT_.out (by kernel_rfl)) (fun _ _ _ h => h) (Or.inl ⟨by rfl, ?_⟩) ?_ ?_; rotate_left; (intro w'; go_simp; with_reducible rfl); rotate_left; (simp only [Act.put, pk1, pk2, pk3, i64_w, i32_w]; rfl)
              refine pure_ (i := 1) (N := some 71) (v := ?_) (a' := ?_) pkb9_2 rfl rfl (any_of HT_.out (by kernel_rfl)) (fun _ _ _ h => h) (Or.inl ⟨by rfl, ?_⟩) ?_ ?_; rotate_left; (intro w'; go_simp; with_reducible rfl); rotate_left; (simp only [Act.put, pk1, pk2, pk3, i64_w, i32_w]; rfl)
              refine pure_ (i := 2) (N := some 72) (v := ?_) (a' := ?_) pkb9_3 rfl rfl (any_of HT_.out (by kernel_rfl)) (fun _ _ _ h => h) (Or.inl ⟨by rfl, ?_⟩) ?_ ?_; rotate_left; (intro w'; go_simp; with_reducible rfl); rotate_left; (simp only [Act.put, pk1, pk2, pk3, i64_w, i32_w]; rfl)
              refine pure_ (i := 3) (N := some 73) (v := ?_) (a' := ?_) pkb9_4 rfl rfl (any_of HT_.out (by kernel_rfl)) (fun _ _ _ h => h) (Or.inl ⟨by rfl, ?_⟩) ?_ ?_; rotate_left; (intro w'; go_simp; with_reducible rfl); rotate_left; (simp only [Act.put, pk1, pk2, pk3, i64_w, i32_w]; rfl)
              refine pure_ (i := 4) (N := some 74) (v := ?_) (a' := ?_) pkb9_5 rfl rfl (any_of HT_.out (by kernel_rfl)) (fun _ _ _ h => h) (Or.inl ⟨by rfl, ?_⟩) ?_ ?_; rotate_left; (intro w'; go_simp; with_reducible rfl); rotate_left; (simp only [Act.put, pk1, pk2, pk3, i64_w, i32_w]; rfl)
              refine pure_ (i := 6) (N := some 76) (v := ?_) (a' := ?_) #[true, true, true, true, true, false, true, false, false] rfl rfl (any_of HT_.out (by kernel_rfl)) (fun _ _ _ h => h) (Or.inl ⟨by rfl, ?_⟩) ?_ ?_; rotate_left; (intro w'; go_simp; with_reducible rfl); rotate_left; (simp only [Act.put, pk1, pk2, pk3, i64_w, i32_w]; rfl)
              refine take_ (i := 5) (N := some 75) (v := ?_) (a' := ?_) pkb9_7 rfl rfl (take_ofW HT_.out HW_.out (by kernel_rfl)) (fun _ _ _ h => h) (Or.inl ⟨by rfl, ?_⟩) hHeld ?_ ?_; rotate_left; (rintro w' ⟨s0, s1, s2, s3, s4, s5, s6, s7, s8⟩; go_simp; with_reducible rfl); rotate_left; (simp only [Act.put, pk1, pk2, pk3, i64_w, i32_w]; rfl)
              refine one_ (i := 7) (N := some 77) pkb9_8 rfl rfl (one_of HT_.out (by kernel_rfl)) (by decide) (fun K hK => ?_)
              refine goes_ Try.func67 (by kernel_rfl) rfl #[.int .i64 (wrap64 ((wrap64 ((wrap64 ((wrap64 ((wrap64 ((wrap64 (x1_1 + 1)) + 1)) + 1)) + 1)) + 1)) + 1))] (by rfl) rfl rfl (by (try simp only [List.map_toArray, List.map_cons, List.map_nil]); first | done | rfl | (simp only [List.length_drop, List.length_take]; rfl)) ?_
              with_reducible refine (laws_markText.calls k1 (wrap64 ((wrap64 ((wrap64 ((wrap64 ((wrap64 ((wrap64 (x1_1 + 1)) + 1)) + 1)) + 1)) + 1)) + 1)) t241 _ A12.out).mono ?_
              rintro e w21 ⟨rfl, hb⟩
              refine ⟨_, rfl, ?_⟩
              have n0_ := Aside0.mk (below_step (by repeat (first | (with_reducible first | exact HB.out | apply pkA | apply pkN | apply pkD) | exact HB.out)) hb)
              clear HB
              have HB := n0_
              clear n0_
              (try clear hb)
              (try clear hb2)
              (try clear hk)
              (try clear hi)
              refine hK.out _ _ ⟨((HB.out.cell (World.block_lt_of_cell? w _ hw240_0)).trans hw240_0), ((HB.out.cell (World.block_lt_of_cell? w _ hw240_1)).trans hw240_1), ((HB.out.cell (World.block_lt_of_cell? w _ hw240_2)).trans hw240_2), ((HB.out.cell (World.block_lt_of_cell? w _ hw240_3)).trans hw240_3), ((HB.out.cell (World.block_lt_of_cell? w _ hw240_4)).trans hw240_4), ((HB.out.cell (World.block_lt_of_cell? w _ hw240_5)).trans hw240_5), ((HB.out.cell (World.block_lt_of_cell? w _ hw240_6)).trans hw240_6), ((HB.out.cell (World.block_lt_of_cell? w _ hw240_7)).trans hw240_7), ((HB.out.cell (World.block_lt_of_cell? w _ hw240_8)).trans hw240_8)⟩ (fun hHeld => ?_)
              clear hK K
              refine norm_ (a' := ?_) ?_ ?_
              rotate_left
              ·show Act.put _ (some 77) _ = _
               simp only [Act.put, pk1, pk2, pk3, i64_w, i32_w]
               rfl
              refine pure_ (i := 8) (N := some 78) (v := ?_) (a' := ?_) pkb9_9 rfl rfl (any_of HT_.out (by kernel_rfl)) (fun _ _ _ h => h) (Or.inl ⟨by rfl, ?_⟩) ?_ ?_; rotate_left; (intro w'; go_simp; with_reducible rfl); rotate_left; (simp only [Act.put, pk1, pk2, pk3, i64_w, i32_w]; rfl)
              refine done_ (done_of HT_.out (by kernel_rfl)) ?_
              try go_wp2
              have n0_ := Aside0.mk (pkD HB.out)
              clear HB
              have HB := n0_
              clear n0_
              have p242 : 0 ≤ (x5_1 : Int) := of_decide_eq_true (by first | (with_reducible assumption) | assumption)
              have q242 : x5_1 < (l0.length : Int) := of_decide_eq_true (by first | (with_reducible assumption) | assumption)
              obtain ⟨ad242, e242, hx242_0, hx242_1, hx242_2, hx242_3, hx242_4, hx242_5, hx242_6, hx242_7, hx242_8⟩ := at_T95 HR0.out x5_1 p242 q242
              have hw242_8 := hx242_8
              have hw242_7 := hx242_7
              have hw242_6 := hx242_6
              have hw242_5 := hx242_5
              have hw242_4 := hx242_4
              have hw242_3 := hx242_3
              have hw242_2 := hx242_2
              have hw242_1 := hx242_1
              have hw242_0 := hx242_0
              obtain rfl : ad233 = ad242 := (by injection e242)
              obtain ⟨hx242_0, hx242_1, hx242_2, hx242_3, hx242_4, hx242_5, hx242_6, hx242_7, hx242_8⟩ := pk_up9 HB.out hx242_0 hx242_1 hx242_2 hx242_3 hx242_4 hx242_5 hx242_6 hx242_7 hx242_8
              replace p242 := eq_true p242
              replace q242 := eq_true q242
              refine start_ (n := 8) (S := fun w' => w'.cell? (ad233.add ((x5_1).toNat * 9)) = some (.int .i64 ((rd_T95 l0 x5_1).f0.f0)) ∧ w'.cell? ⟨(ad233.add ((x5_1).toNat * 9)).block, (ad233.add ((x5_1).toNat * 9)).off + 1, none⟩ = some (.int .i64 ((rd_T95 l0 x5_1).f0.f1)) ∧ w'.cell? ⟨(ad233.add ((x5_1).toNat * 9)).block, (ad233.add ((x5_1).toNat * 9)).off + 2, none⟩ = some (.int .i64 ((rd_T95 l0 x5_1).f1)) ∧ w'.cell? ⟨(ad233.add ((x5_1).toNat * 9)).block, (ad233.add ((x5_1).toNat * 9)).off + 3, none⟩ = some (.int .i64 ((rd_T95 l0 x5_1).f2)) ∧ w'.cell? ⟨(ad233.add ((x5_1).toNat * 9)).block, (ad233.add ((x5_1).toNat * 9)).off + 4, none⟩ = some (.int .i64 ((rd_T95 l0 x5_1).f3)) ∧ w'.cell? ⟨(ad233.add ((x5_1).toNat * 9)).block, (ad233.add ((x5_1).toNat * 9)).off + 5, none⟩ = some (.string ((rd_T95 l0 x5_1).f4.f0)) ∧ w'.cell? ⟨(ad233.add ((x5_1).toNat * 9)).block, (ad233.add ((x5_1).toNat * 9)).off + 6, none⟩ = some (.string ((rd_T95 l0 x5_1).f4.f1)) ∧ w'.cell? ⟨(ad233.add ((x5_1).toNat * 9)).block, (ad233.add ((x5_1).toNat * 9)).off + 7, none⟩ = some (.string ((rd_T95 l0 x5_1).f5)) ∧ w'.cell? ⟨(ad233.add ((x5_1).toNat * 9)).block, (ad233.add ((x5_1).toNat * 9)).off + 8, none⟩ = some (.string ((rd_T95 l0 x5_1).f6))) (ds := []) pkb8_0 (by kernel_rfl) rfl rfl ⟨((HB.out.cell (World.block_lt_of_cell? w _ hw242_0)).trans hw242_0), ((HB.out.cell (World.block_lt_of_cell? w _ hw242_1)).trans hw242_1), ((HB.out.cell (World.block_lt_of_cell? w _ hw242_2)).trans hw242_2), ((HB.out.cell (World.block_lt_of_cell? w _ hw242_3)).trans hw242_3), ((HB.out.cell (World.block_lt_of_cell? w _ hw242_4)).trans hw242_4), ((HB.out.cell (World.block_lt_of_cell? w _ hw242_5)).trans hw242_5), ((HB.out.cell (World.block_lt_of_cell? w _ hw242_6)).trans hw242_6), ((HB.out.cell (World.block_lt_of_cell? w _ hw242_7)).trans hw242_7), ((HB.out.cell (World.block_lt_of_cell? w _ hw242_8)).trans hw242_8)⟩ (fun hHeld => ?_); refine with_tabW laws_heldDirChangeS.tab25 laws_heldDirChangeS.bits25 (fun HT_ HW_ => ?_)
              generalize w21.drew = w22 at HB hx242_0 hx242_1 hx242_2 hx242_3 hx242_4 hx242_5 hx242_6 hx242_7 hx242_8 hHeld ⊢
              refine pure_ (i := 0) (N := some 81) (v := ?_) (a' := ?_) pkb8_1 rfl rfl (any_of HT_.out (by kernel_rfl)) (fun _ _ _ h => h) (Or.inl ⟨by rfl, ?_⟩) ?_ ?_; rotate_left; (intro w'; go_simp; with_reducible rfl); rotate_left; (simp only [Act.put, pk1, pk2, pk3, i64_w, i32_w]; rfl)
              refine pure_ (i := 1) (N := some 82) (v := ?_) (a' := ?_) pkb8_2 rfl rfl (any_of HT_.out (by kernel_rfl)) (fun _ _ _ h => h) (Or.inl ⟨by rfl, ?_⟩) ?_ ?_; rotate_left; (intro w'; go_simp; with_reducible rfl); rotate_left; (simp only [Act.put, pk1, pk2, pk3, i64_w, i32_w]; rfl)
              refine pure_ (i := 2) (N := some 83) (v := ?_) (a' := ?_) pkb8_3 rfl rfl (any_of HT_.out (by kernel_rfl)) (fun _ _ _ h => h) (Or.inl ⟨by rfl, ?_⟩) ?_ ?_; rotate_left; (intro w'; go_simp; with_reducible rfl); rotate_left; (simp only [Act.put, pk1, pk2, pk3, i64_w, i32_w]; rfl)
              refine pure_ (i := 3) (N := some 84) (v := ?_) (a' := ?_) pkb8_4 rfl rfl (any_of HT_.out (by kernel_rfl)) (fun _ _ _ h => h) (Or.inl ⟨by rfl, ?_⟩) ?_ ?_; rotate_left; (intro w'; go_simp; with_reducible rfl); rotate_left; (simp only [Act.put, pk1, pk2, pk3, i64_w, i32_w]; rfl)
              refine pure_ (i := 5) (N := some 86) (v := ?_) (a' := ?_) #[true, true, true, true, false, true, false, false] rfl rfl (any_of HT_.out (by kernel_rfl)) (fun _ _ _ h => h) (Or.inl ⟨by rfl, ?_⟩) ?_ ?_; rotate_left; (intro w'; go_simp; with_reducible rfl); rotate_left; (simp only [Act.put, pk1, pk2, pk3, i64_w, i32_w]; rfl)
              refine take_ (i := 4) (N := some 85) (v := ?_) (a' := ?_) pkb8_6 rfl rfl (take_ofW HT_.out HW_.out (by kernel_rfl)) (fun _ _ _ h => h) (Or.inl ⟨by rfl, ?_⟩) hHeld ?_ ?_; rotate_left; (rintro w' ⟨s0, s1, s2, s3, s4, s5, s6, s7, s8⟩; go_simp; with_reducible rfl); rotate_left; (simp only [Act.put, pk1, pk2, pk3, i64_w, i32_w]; rfl)
              refine one_ (i := 6) (N := some 87) pkb8_7 rfl rfl (one_of HT_.out (by kernel_rfl)) (by decide) (fun K hK => ?_)
              refine goes_ Try.func67 (by kernel_rfl) rfl #[.int .i64 (wrap64 ((wrap64 ((wrap64 ((wrap64 ((wrap64 ((wrap64 ((wrap64 (x1_1 + 1)) + 1)) + 1)) + 1)) + 1)) + 1)) + 1))] (by rfl) rfl rfl (by (try simp only [List.map_toArray, List.map_cons, List.map_nil]); first | done | rfl | (simp only [List.length_drop, List.length_take]; rfl)) ?_
              with_reducible refine (laws_markText.calls k1 (wrap64 ((wrap64 ((wrap64 ((wrap64 ((wrap64 ((wrap64 ((wrap64 (x1_1 + 1)) + 1)) + 1)) + 1)) + 1)) + 1)) + 1)) t243 _ A14.out).mono ?_
              rintro e w23 ⟨rfl, hb⟩
              refine ⟨_, rfl, ?_⟩
              have n0_ := Aside0.mk (below_step (by repeat (first | (with_reducible first | exact HB.out | apply pkA | apply pkN | apply pkD) | exact HB.out)) hb)
              clear HB
              have HB := n0_
              clear n0_
              (try clear hb)
              (try clear hb2)
              (try clear hk)
              (try clear hi)
              refine hK.out _ _ ⟨((HB.out.cell (World.block_lt_of_cell? w _ hw242_0)).trans hw242_0), ((HB.out.cell (World.block_lt_of_cell? w _ hw242_1)).trans hw242_1), ((HB.out.cell (World.block_lt_of_cell? w _ hw242_2)).trans hw242_2), ((HB.out.cell (World.block_lt_of_cell? w _ hw242_3)).trans hw242_3), ((HB.out.cell (World.block_lt_of_cell? w _ hw242_4)).trans hw242_4), ((HB.out.cell (World.block_lt_of_cell? w _ hw242_5)).trans hw242_5), ((HB.out.cell (World.block_lt_of_cell? w _ hw242_6)).trans hw242_6), ((HB.out.cell (World.block_lt_of_cell? w _ hw242_7)).trans hw242_7), ((HB.out.cell (World.block_lt_of_cell? w _ hw242_8)).trans hw242_8)⟩ (fun hHeld => ?_)
              clear hK K
              refine norm_ (a' := ?_) ?_ ?_
              rotate_left
              ·show Act.put _ (some 87) _ = _
               simp only [Act.put, pk1, pk2, pk3, i64_w, i32_w]
               rfl
              refine pure_ (i := 7) (N := some 88) (v := ?_) (a' := ?_) pkb8_8 rfl rfl (any_of HT_.out (by kernel_rfl)) (fun _ _ _ h => h) (Or.inl ⟨by rfl, ?_⟩) ?_ ?_; rotate_left; (intro w'; go_simp; with_reducible rfl); rotate_left; (simp only [Act.put, pk1, pk2, pk3, i64_w, i32_w]; rfl)
              refine done_ (done_of HT_.out (by kernel_rfl)) ?_
              try go_wp2
              have n0_ := Aside0.mk (pkD HB.out)
              clear HB
              have HB := n0_
              clear n0_
              have p244 : 0 ≤ (x5_1 : Int) := of_decide_eq_true (by first | (with_reducible assumption) | assumption)
              have q244 : x5_1 < (l0.length : Int) := of_decide_eq_true (by first | (with_reducible assumption) | assumption)
              obtain ⟨ad244, e244, hx244_0, hx244_1, hx244_2, hx244_3, hx244_4, hx244_5, hx244_6, hx244_7, hx244_8⟩ := at_T95 HR0.out x5_1 p244 q244
              have hw244_8 := hx244_8
              have hw244_7 := hx244_7
              have hw244_6 := hx244_6
              have hw244_5 := hx244_5
              have hw244_4 := hx244_4
              have hw244_3 := hx244_3
              have hw244_2 := hx244_2
              have hw244_1 := hx244_1
              have hw244_0 := hx244_0
              obtain rfl : ad233 = ad244 := (by injection e244)
              obtain ⟨hx244_0, hx244_1, hx244_2, hx244_3, hx244_4, hx244_5, hx244_6, hx244_7, hx244_8⟩ := pk_up9 HB.out hx244_0 hx244_1 hx244_2 hx244_3 hx244_4 hx244_5 hx244_6 hx244_7 hx244_8
              replace p244 := eq_true p244
              replace q244 := eq_true q244
              refine start_ (n := 8) (S := fun w' => w'.cell? (ad233.add ((x5_1).toNat * 9)) = some (.int .i64 ((rd_T95 l0 x5_1).f0.f0)) ∧ w'.cell? ⟨(ad233.add ((x5_1).toNat * 9)).block, (ad233.add ((x5_1).toNat * 9)).off + 1, none⟩ = some (.int .i64 ((rd_T95 l0 x5_1).f0.f1)) ∧ w'.cell? ⟨(ad233.add ((x5_1).toNat * 9)).block, (ad233.add ((x5_1).toNat * 9)).off + 2, none⟩ = some (.int .i64 ((rd_T95 l0 x5_1).f1)) ∧ w'.cell? ⟨(ad233.add ((x5_1).toNat * 9)).block, (ad233.add ((x5_1).toNat * 9)).off + 3, none⟩ = some (.int .i64 ((rd_T95 l0 x5_1).f2)) ∧ w'.cell? ⟨(ad233.add ((x5_1).toNat * 9)).block, (ad233.add ((x5_1).toNat * 9)).off + 4, none⟩ = some (.int .i64 ((rd_T95 l0 x5_1).f3)) ∧ w'.cell? ⟨(ad233.add ((x5_1).toNat * 9)).block, (ad233.add ((x5_1).toNat * 9)).off + 5, none⟩ = some (.string ((rd_T95 l0 x5_1).f4.f0)) ∧ w'.cell? ⟨(ad233.add ((x5_1).toNat * 9)).block, (ad233.add ((x5_1).toNat * 9)).off + 6, none⟩ = some (.string ((rd_T95 l0 x5_1).f4.f1)) ∧ w'.cell? ⟨(ad233.add ((x5_1).toNat * 9)).block, (ad233.add ((x5_1).toNat * 9)).off + 7, none⟩ = some (.string ((rd_T95 l0 x5_1).f5)) ∧ w'.cell? ⟨(ad233.add ((x5_1).toNat * 9)).block, (ad233.add ((x5_1).toNat * 9)).off + 8, none⟩ = some (.string ((rd_T95 l0 x5_1).f6))) (ds := []) pkb8_0 (by kernel_rfl) rfl rfl ⟨((HB.out.cell (World.block_lt_of_cell? w _ hw244_0)).trans hw244_0), ((HB.out.cell (World.block_lt_of_cell? w _ hw244_1)).trans hw244_1), ((HB.out.cell (World.block_lt_of_cell? w _ hw244_2)).trans hw244_2), ((HB.out.cell (World.block_lt_of_cell? w _ hw244_3)).trans hw244_3), ((HB.out.cell (World.block_lt_of_cell? w _ hw244_4)).trans hw244_4), ((HB.out.cell (World.block_lt_of_cell? w _ hw244_5)).trans hw244_5), ((HB.out.cell (World.block_lt_of_cell? w _ hw244_6)).trans hw244_6), ((HB.out.cell (World.block_lt_of_cell? w _ hw244_7)).trans hw244_7), ((HB.out.cell (World.block_lt_of_cell? w _ hw244_8)).trans hw244_8)⟩ (fun hHeld => ?_); refine with_tabW laws_heldDirChangeS.tab28 laws_heldDirChangeS.bits28 (fun HT_ HW_ => ?_)
              generalize w23.drew = w24 at HB hx244_0 hx244_1 hx244_2 hx244_3 hx244_4 hx244_5 hx244_6 hx244_7 hx244_8 hHeld ⊢
              refine pure_ (i := 0) (N := some 91) (v := ?_) (a' := ?_) pkb8_1 rfl rfl (any_of HT_.out (by kernel_rfl)) (fun _ _ _ h => h) (Or.inl ⟨by rfl, ?_⟩) ?_ ?_; rotate_left; (intro w'; go_simp; with_reducible rfl); rotate_left; (simp only [Act.put, pk1, pk2, pk3, i64_w, i32_w]; rfl)
              refine pure_ (i := 1) (N := some 92) (v := ?_) (a' := ?_) pkb8_2 rfl rfl (any_of HT_.out (by kernel_rfl)) (fun _ _ _ h => h) (Or.inl ⟨by rfl, ?_⟩) ?_ ?_; rotate_left; (intro w'; go_simp; with_reducible rfl); rotate_left; (simp only [Act.put, pk1, pk2, pk3, i64_w, i32_w]; rfl)
              refine pure_ (i := 2) (N := some 93) (v := ?_) (a' := ?_) pkb8_3 rfl rfl (any_of HT_.out (by kernel_rfl)) (fun _ _ _ h => h) (Or.inl ⟨by rfl, ?_⟩) ?_ ?_; rotate_left; (intro w'; go_simp; with_reducible rfl); rotate_left; (simp only [Act.put, pk1, pk2, pk3, i64_w, i32_w]; rfl)
              refine pure_ (i := 3) (N := some 94) (v := ?_) (a' := ?_) pkb8_4 rfl rfl (any_of HT_.out (by kernel_rfl)) (fun _ _ _ h => h) (Or.inl ⟨by rfl, ?_⟩) ?_ ?_; rotate_left; (intro w'; go_simp; with_reducible rfl); rotate_left; (simp only [Act.put, pk1, pk2, pk3, i64_w, i32_w]; rfl)
              refine pure_ (i := 5) (N := some 96) (v := ?_) (a' := ?_) #[true, true, true, true, false, true, false, false] rfl rfl (any_of HT_.out (by kernel_rfl)) (fun _ _ _ h => h) (Or.inl ⟨by rfl, ?_⟩) ?_ ?_; rotate_left; (intro w'; go_simp; with_reducible rfl); rotate_left; (simp only [Act.put, pk1, pk2, pk3, i64_w, i32_w]; rfl)
              refine take_ (i := 4) (N := some 95) (v := ?_) (a' := ?_) pkb8_6 rfl rfl (take_ofW HT_.out HW_.out (by kernel_rfl)) (fun _ _ _ h => h) (Or.inl ⟨by rfl, ?_⟩) hHeld ?_ ?_; rotate_left; (rintro w' ⟨s0, s1, s2, s3, s4, s5, s6, s7, s8⟩; go_simp; with_reducible rfl); rotate_left; (simp only [Act.put, pk1, pk2, pk3, i64_w, i32_w]; rfl)
              refine one_ (i := 6) (N := some 97) pkb8_7 rfl rfl (one_of HT_.out (by kernel_rfl)) (by decide) (fun K hK => ?_)
              refine goes_ Try.func67 (by kernel_rfl) rfl #[.int .i64 (wrap64 ((wrap64 ((wrap64 ((wrap64 ((wrap64 ((wrap64 ((wrap64 ((wrap64 (x1_1 + 1)) + 1)) + 1)) + 1)) + 1)) + 1)) + 1)) + 1))] (by rfl) rfl rfl (by (try simp only [List.map_toArray, List.map_cons, List.map_nil]); first | done | rfl | (simp only [List.length_drop, List.length_take]; rfl)) ?_
              with_reducible refine (laws_markText.calls k1 (wrap64 ((wrap64 ((wrap64 ((wrap64 ((wrap64 ((wrap64 ((wrap64 ((wrap64 (x1_1 + 1)) + 1)) + 1)) + 1)) + 1)) + 1)) + 1)) + 1)) t245 _ A16.out).mono ?_
              rintro e w25 ⟨rfl, hb⟩
              refine ⟨_, rfl, ?_⟩
              have n0_ := Aside0.mk (below_step (by repeat (first | (with_reducible first | exact HB.out | apply pkA | apply pkN | apply pkD) | exact HB.out)) hb)
              clear HB
              have HB := n0_
              clear n0_
              (try clear hb)
              (try clear hb2)
              (try clear hk)
              (try clear hi)
              refine hK.out _ _ ⟨((HB.out.cell (World.block_lt_of_cell? w _ hw244_0)).trans hw244_0), ((HB.out.cell (World.block_lt_of_cell? w _ hw244_1)).trans hw244_1), ((HB.out.cell (World.block_lt_of_cell? w _ hw244_2)).trans hw244_2), ((HB.out.cell (World.block_lt_of_cell? w _ hw244_3)).trans hw244_3), ((HB.out.cell (World.block_lt_of_cell? w _ hw244_4)).trans hw244_4), ((HB.out.cell (World.block_lt_of_cell? w _ hw244_5)).trans hw244_5), ((HB.out.cell (World.block_lt_of_cell? w _ hw244_6)).trans hw244_6), ((HB.out.cell (World.block_lt_of_cell? w _ hw244_7)).trans hw244_7), ((HB.out.cell (World.block_lt_of_cell? w _ hw244_8)).trans hw244_8)⟩ (fun hHeld => ?_)
              clear hK K
              refine norm_ (a' := ?_) ?_ ?_
              rotate_left
              ·show Act.put _ (some 97) _ = _
               simp only [Act.put, pk1, pk2, pk3, i64_w, i32_w]
               rfl
              refine pure_ (i := 7) (N := some 98) (v := ?_) (a' := ?_) pkb8_8 rfl rfl (any_of HT_.out (by kernel_rfl)) (fun _ _ _ h => h) (Or.inl ⟨by rfl, ?_⟩) ?_ ?_; rotate_left; (intro w'; go_simp; with_reducible rfl); rotate_left; (simp only [Act.put, pk1, pk2, pk3, i64_w, i32_w]; rfl)
              refine done_ (done_of HT_.out (by kernel_rfl)) ?_
              try go_wp2
              go_roundg k1
              case measure => have := HK1.out; omega
              case rel => exact ⟨(wrap64 ((wrap64 ((wrap64 ((wrap64 ((wrap64 ((wrap64 ((wrap64 ((wrap64 ((wrap64 (x1_1 + 1)) + 1)) + 1)) + 1)) + 1)) + 1)) + 1)) + 1)) + 1)), (wrap64 (x5_1 + 1)), (by first | rfl | (simp; done) | (simp [pw_ne_nil, pw_eq_nil]; done) | (simp [*]; done)), (by first | rfl | (simp; done) | (simp [pw_ne_nil, pw_eq_nil]; done) | (simp [*]; done)), H', ⟨by have := HK1.out; omega⟩, ⟨by repeat (first | (with_reducible first | exact HB.out | apply pkA | apply pkN | apply pkD) | exact HB.out)⟩⟩
             ·rw [if_neg c17] at H
              have c17b0 : (((rd_T95 l0 x5_1).f6).toList == t245.toList) = false := beq_eq_false_iff_ne.mpr c17
              have c17b1 : (((rd_T95 l0 x5_1).f6).toList != t245.toList) = true := bne_iff_ne.mpr c17
              obtain rfl := Option.some.inj H
              have p233 : 0 ≤ (x5_1 : Int) := of_decide_eq_true (by first | (with_reducible assumption) | assumption)
              have q233 : x5_1 < (l0.length : Int) := of_decide_eq_true (by first | (with_reducible assumption) | assumption)
              obtain ⟨ad233, e233, hx233_0, hx233_1, hx233_2, hx233_3, hx233_4, hx233_5, hx233_6, hx233_7, hx233_8⟩ := at_T95 HR0.out x5_1 p233 q233
              cases e233
              obtain ⟨hx233_0, hx233_1, hx233_2, hx233_3, hx233_4, hx233_5, hx233_6, hx233_7, hx233_8⟩ := pk_up9 HB.out hx233_0 hx233_1 hx233_2 hx233_3 hx233_4 hx233_5 hx233_6 hx233_7 hx233_8
              replace p233 := eq_true p233
              replace q233 := eq_true q233
              have p234 : 0 ≤ (x5_1 : Int) := of_decide_eq_true (by first | (with_reducible assumption) | assumption)
              have q234 : x5_1 < (l0.length : Int) := of_decide_eq_true (by first | (with_reducible assumption) | assumption)
              obtain ⟨ad234, e234, hx234_0, hx234_1, hx234_2, hx234_3, hx234_4, hx234_5, hx234_6, hx234_7, hx234_8⟩ := at_T95 HR0.out x5_1 p234 q234
              obtain rfl : ad233 = ad234 := (by injection e234)
              obtain ⟨hx234_0, hx234_1, hx234_2, hx234_3, hx234_4, hx234_5, hx234_6, hx234_7, hx234_8⟩ := pk_up9 HB.out hx234_0 hx234_1 hx234_2 hx234_3 hx234_4 hx234_5 hx234_6 hx234_7 hx234_8
              replace p234 := eq_true p234
              replace q234 := eq_true q234
              have p235 : 0 ≤ (x5_1 : Int) := of_decide_eq_true (by first | (with_reducible assumption) | assumption)
              have q235 : x5_1 < (l0.length : Int) := of_decide_eq_true (by first | (with_reducible assumption) | assumption)
              obtain ⟨ad235, e235, hx235_0, hx235_1, hx235_2, hx235_3, hx235_4, hx235_5, hx235_6, hx235_7, hx235_8⟩ := at_T95 HR0.out x5_1 p235 q235
              obtain rfl : ad233 = ad235 := (by injection e235)
              obtain ⟨hx235_0, hx235_1, hx235_2, hx235_3, hx235_4, hx235_5, hx235_6, hx235_7, hx235_8⟩ := pk_up9 HB.out hx235_0 hx235_1 hx235_2 hx235_3 hx235_4 hx235_5 hx235_6 hx235_7 hx235_8
              replace p235 := eq_true p235
              replace q235 := eq_true q235
              have p236 : 0 ≤ (x5_1 : Int) := of_decide_eq_true (by first | (with_reducible assumption) | assumption)
              have q236 : x5_1 < (l0.length : Int) := of_decide_eq_true (by first | (with_reducible assumption) | assumption)
              obtain ⟨ad236, e236, hx236_0, hx236_1, hx236_2, hx236_3, hx236_4, hx236_5, hx236_6, hx236_7, hx236_8⟩ := at_T95 HR0.out x5_1 p236 q236
              obtain rfl : ad233 = ad236 := (by injection e236)
              obtain ⟨hx236_0, hx236_1, hx236_2, hx236_3, hx236_4, hx236_5, hx236_6, hx236_7, hx236_8⟩ := pk_up9 HB.out hx236_0 hx236_1 hx236_2 hx236_3 hx236_4 hx236_5 hx236_6 hx236_7 hx236_8
              replace p236 := eq_true p236
              replace q236 := eq_true q236
              have p237 : 0 ≤ (x5_1 : Int) := of_decide_eq_true (by first | (with_reducible assumption) | assumption)
              have q237 : x5_1 < (l0.length : Int) := of_decide_eq_true (by first | (with_reducible assumption) | assumption)
              obtain ⟨ad237, e237, hx237_0, hx237_1, hx237_2, hx237_3, hx237_4, hx237_5, hx237_6, hx237_7, hx237_8⟩ := at_T95 HR0.out x5_1 p237 q237
              obtain rfl : ad233 = ad237 := (by injection e237)
              obtain ⟨hx237_0, hx237_1, hx237_2, hx237_3, hx237_4, hx237_5, hx237_6, hx237_7, hx237_8⟩ := pk_up9 HB.out hx237_0 hx237_1 hx237_2 hx237_3 hx237_4 hx237_5 hx237_6 hx237_7 hx237_8
              replace p237 := eq_true p237
              replace q237 := eq_true q237
              try go_wp2
              have n0_ := Aside0.mk (pkD HB.out)
              clear HB
              have HB := n0_
              clear n0_
              have p238 : 0 ≤ (x5_1 : Int) := of_decide_eq_true (by first | (with_reducible assumption) | assumption)
              have q238 : x5_1 < (l0.length : Int) := of_decide_eq_true (by first | (with_reducible assumption) | assumption)
              obtain ⟨ad238, e238, hx238_0, hx238_1, hx238_2, hx238_3, hx238_4, hx238_5, hx238_6, hx238_7, hx238_8⟩ := at_T95 HR0.out x5_1 p238 q238
              have hw238_8 := hx238_8
              have hw238_7 := hx238_7
              have hw238_6 := hx238_6
              have hw238_5 := hx238_5
              have hw238_4 := hx238_4
              have hw238_3 := hx238_3
              have hw238_2 := hx238_2
              have hw238_1 := hx238_1
              have hw238_0 := hx238_0
              obtain rfl : ad233 = ad238 := (by injection e238)
              obtain ⟨hx238_0, hx238_1, hx238_2, hx238_3, hx238_4, hx238_5, hx238_6, hx238_7, hx238_8⟩ := pk_up9 HB.out hx238_0 hx238_1 hx238_2 hx238_3 hx238_4 hx238_5 hx238_6 hx238_7 hx238_8
              replace p238 := eq_true p238
              replace q238 := eq_true q238
              refine start_ (n := 9) (S := fun w' => w'.cell? (ad233.add ((x5_1).toNat * 9)) = some (.int .i64 ((rd_T95 l0 x5_1).f0.f0)) ∧ w'.cell? ⟨(ad233.add ((x5_1).toNat * 9)).block, (ad233.add ((x5_1).toNat * 9)).off + 1, none⟩ = some (.int .i64 ((rd_T95 l0 x5_1).f0.f1)) ∧ w'.cell? ⟨(ad233.add ((x5_1).toNat * 9)).block, (ad233.add ((x5_1).toNat * 9)).off + 2, none⟩ = some (.int .i64 ((rd_T95 l0 x5_1).f1)) ∧ w'.cell? ⟨(ad233.add ((x5_1).toNat * 9)).block, (ad233.add ((x5_1).toNat * 9)).off + 3, none⟩ = some (.int .i64 ((rd_T95 l0 x5_1).f2)) ∧ w'.cell? ⟨(ad233.add ((x5_1).toNat * 9)).block, (ad233.add ((x5_1).toNat * 9)).off + 4, none⟩ = some (.int .i64 ((rd_T95 l0 x5_1).f3)) ∧ w'.cell? ⟨(ad233.add ((x5_1).toNat * 9)).block, (ad233.add ((x5_1).toNat * 9)).off + 5, none⟩ = some (.string ((rd_T95 l0 x5_1).f4.f0)) ∧ w'.cell? ⟨(ad233.add ((x5_1).toNat * 9)).block, (ad233.add ((x5_1).toNat * 9)).off + 6, none⟩ = some (.string ((rd_T95 l0 x5_1).f4.f1)) ∧ w'.cell? ⟨(ad233.add ((x5_1).toNat * 9)).block, (ad233.add ((x5_1).toNat * 9)).off + 7, none⟩ = some (.string ((rd_T95 l0 x5_1).f5)) ∧ w'.cell? ⟨(ad233.add ((x5_1).toNat * 9)).block, (ad233.add ((x5_1).toNat * 9)).off + 8, none⟩ = some (.string ((rd_T95 l0 x5_1).f6))) (ds := []) pkb9_0 (by kernel_rfl) rfl rfl ⟨((HB.out.cell (World.block_lt_of_cell? w _ hw238_0)).trans hw238_0), ((HB.out.cell (World.block_lt_of_cell? w _ hw238_1)).trans hw238_1), ((HB.out.cell (World.block_lt_of_cell? w _ hw238_2)).trans hw238_2), ((HB.out.cell (World.block_lt_of_cell? w _ hw238_3)).trans hw238_3), ((HB.out.cell (World.block_lt_of_cell? w _ hw238_4)).trans hw238_4), ((HB.out.cell (World.block_lt_of_cell? w _ hw238_5)).trans hw238_5), ((HB.out.cell (World.block_lt_of_cell? w _ hw238_6)).trans hw238_6), ((HB.out.cell (World.block_lt_of_cell? w _ hw238_7)).trans hw238_7), ((HB.out.cell (World.block_lt_of_cell? w _ hw238_8)).trans hw238_8)⟩ (fun hHeld => ?_); refine with_tabW laws_heldDirChangeS.tab19 laws_heldDirChangeS.bits19 (fun HT_ HW_ => ?_)
              generalize wr.drew = w26 at HB hx238_0 hx238_1 hx238_2 hx238_3 hx238_4 hx238_5 hx238_6 hx238_7 hx238_8 hHeld ⊢
              refine pure_ (i := 0) (N := some 59) (v := ?_) (a' := ?_) pkb9_1 rfl rfl (any_of HT_.out (by kernel_rfl)) (fun _ _ _ h => h) (Or.inl ⟨by rfl, ?_⟩) ?_ ?_; rotate_left; (intro w'; go_simp; with_reducible rfl); rotate_left; (simp only [Act.put, pk1, pk2, pk3, i64_w, i32_w]; rfl)
              refine pure_ (i := 1) (N := some 60) (v := ?_) (a' := ?_) pkb9_2 rfl rfl (any_of HT_.out (by kernel_rfl)) (fun _ _ _ h => h) (Or.inl ⟨by rfl, ?_⟩) ?_ ?_; rotate_left; (intro w'; go_simp; with_reducible rfl); rotate_left; (simp only [Act.put, pk1, pk2, pk3, i64_w, i32_w]; rfl)
              refine pure_ (i := 2) (N := some 61) (v := ?_) (a' := ?_) pkb9_3 rfl rfl (any_of HT_.out (by kernel_rfl)) (fun _ _ _ h => h) (Or.inl ⟨by rfl, ?_⟩) ?_ ?_; rotate_left; (intro w'; go_simp; with_reducible rfl); rotate_left; (simp only [Act.put, pk1, pk2, pk3, i64_w, i32_w]; rfl)
              refine pure_ (i := 3) (N := some 62) (v := ?_) (a' := ?_) pkb9_4 rfl rfl (any_of HT_.out (by kernel_rfl)) (fun _ _ _ h => h) (Or.inl ⟨by rfl, ?_⟩) ?_ ?_; rotate_left; (intro w'; go_simp; with_reducible rfl); rotate_left; (simp only [Act.put, pk1, pk2, pk3, i64_w, i32_w]; rfl)
              refine pure_ (i := 4) (N := some 63) (v := ?_) (a' := ?_) pkb9_5 rfl rfl (any_of HT_.out (by kernel_rfl)) (fun _ _ _ h => h) (Or.inl ⟨by rfl, ?_⟩) ?_ ?_; rotate_left; (intro w'; go_simp; with_reducible rfl); rotate_left; (simp only [Act.put, pk1, pk2, pk3, i64_w, i32_w]; rfl)
              refine pure_ (i := 6) (N := some 65) (v := ?_) (a' := ?_) #[true, true, true, true, true, false, true, false, false] rfl rfl (any_of HT_.out (by kernel_rfl)) (fun _ _ _ h => h) (Or.inl ⟨by rfl, ?_⟩) ?_ ?_; rotate_left; (intro w'; go_simp; with_reducible rfl); rotate_left; (simp only [Act.put, pk1, pk2, pk3, i64_w, i32_w]; rfl)
              refine take_ (i := 5) (N := some 64) (v := ?_) (a' := ?_) pkb9_7 rfl rfl (take_ofW HT_.out HW_.out (by kernel_rfl)) (fun _ _ _ h => h) (Or.inl ⟨by rfl, ?_⟩) hHeld ?_ ?_; rotate_left; (rintro w' ⟨s0, s1, s2, s3, s4, s5, s6, s7, s8⟩; go_simp; with_reducible rfl); rotate_left; (simp only [Act.put, pk1, pk2, pk3, i64_w, i32_w]; rfl)
              refine one_ (i := 7) (N := some 66) pkb9_8 rfl rfl (one_of HT_.out (by kernel_rfl)) (by decide) (fun K hK => ?_)
              refine goes_ Try.func67 (by kernel_rfl) rfl #[.int .i64 (wrap64 ((wrap64 ((wrap64 ((wrap64 ((wrap64 (x1_1 + 1)) + 1)) + 1)) + 1)) + 1))] (by rfl) rfl rfl (by (try simp only [List.map_toArray, List.map_cons, List.map_nil]); first | done | rfl | (simp only [List.length_drop, List.length_take]; rfl)) ?_
              with_reducible refine (laws_markText.calls k1 (wrap64 ((wrap64 ((wrap64 ((wrap64 ((wrap64 (x1_1 + 1)) + 1)) + 1)) + 1)) + 1)) t239 _ A10.out).mono ?_
              rintro e w27 ⟨rfl, hb⟩
              refine ⟨_, rfl, ?_⟩
              have n0_ := Aside0.mk (below_step (by repeat (first | (with_reducible first | exact HB.out | apply pkA | apply pkN | apply pkD) | exact HB.out)) hb)
              clear HB
              have HB := n0_
              clear n0_
              (try clear hb)
              (try clear hb2)
              (try clear hk)
              (try clear hi)
              refine hK.out _ _ ⟨((HB.out.cell (World.block_lt_of_cell? w _ hw238_0)).trans hw238_0), ((HB.out.cell (World.block_lt_of_cell? w _ hw238_1)).trans hw238_1), ((HB.out.cell (World.block_lt_of_cell? w _ hw238_2)).trans hw238_2), ((HB.out.cell (World.block_lt_of_cell? w _ hw238_3)).trans hw238_3), ((HB.out.cell (World.block_lt_of_cell? w _ hw238_4)).trans hw238_4), ((HB.out.cell (World.block_lt_of_cell? w _ hw238_5)).trans hw238_5), ((HB.out.cell (World.block_lt_of_cell? w _ hw238_6)).trans hw238_6), ((HB.out.cell (World.block_lt_of_cell? w _ hw238_7)).trans hw238_7), ((HB.out.cell (World.block_lt_of_cell? w _ hw238_8)).trans hw238_8)⟩ (fun hHeld => ?_)
              clear hK K
              refine norm_ (a' := ?_) ?_ ?_
              rotate_left
              ·show Act.put _ (some 66) _ = _
               simp only [Act.put, pk1, pk2, pk3, i64_w, i32_w]
               rfl
              refine pure_ (i := 8) (N := some 67) (v := ?_) (a' := ?_) pkb9_9 rfl rfl (any_of HT_.out (by kernel_rfl)) (fun _ _ _ h => h) (Or.inl ⟨by rfl, ?_⟩) ?_ ?_; rotate_left; (intro w'; go_simp; with_reducible rfl); rotate_left; (simp only [Act.put, pk1, pk2, pk3, i64_w, i32_w]; rfl)
              refine done_ (done_of HT_.out (by kernel_rfl)) ?_
              try go_wp2
              have n0_ := Aside0.mk (pkD HB.out)
              clear HB
              have HB := n0_
              clear n0_
              have p240 : 0 ≤ (x5_1 : Int) := of_decide_eq_true (by first | (with_reducible assumption) | assumption)
              have q240 : x5_1 < (l0.length : Int) := of_decide_eq_true (by first | (with_reducible assumption) | assumption)
              obtain ⟨ad240, e240, hx240_0, hx240_1, hx240_2, hx240_3, hx240_4, hx240_5, hx240_6, hx240_7, hx240_8⟩ := at_T95 HR0.out x5_1 p240 q240
              have hw240_8 := hx240_8
              have hw240_7 := hx240_7
              have hw240_6 := hx240_6
              have hw240_5 := hx240_5
              have hw240_4 := hx240_4
              have hw240_3 := hx240_3
              have hw240_2 := hx240_2
              have hw240_1 := hx240_1
              have hw240_0 := hx240_0
              obtain rfl : ad233 = ad240 := (by injection e240)
              obtain ⟨hx240_0, hx240_1, hx240_2, hx240_3, hx240_4, hx240_5, hx240_6, hx240_7, hx240_8⟩ := pk_up9 HB.out hx240_0 hx240_1 hx240_2 hx240_3 hx240_4 hx240_5 hx240_6 hx240_7 hx240_8
              replace p240 := eq_true p240
              replace q240 := eq_true q240
              refine start_ (n := 9) (S := fun w' => w'.cell? (ad233.add ((x5_1).toNat * 9)) = some (.int .i64 ((rd_T95 l0 x5_1).f0.f0)) ∧ w'.cell? ⟨(ad233.add ((x5_1).toNat * 9)).block, (ad233.add ((x5_1).toNat * 9)).off + 1, none⟩ = some (.int .i64 ((rd_T95 l0 x5_1).f0.f1)) ∧ w'.cell? ⟨(ad233.add ((x5_1).toNat * 9)).block, (ad233.add ((x5_1).toNat * 9)).off + 2, none⟩ = some (.int .i64 ((rd_T95 l0 x5_1).f1)) ∧ w'.cell? ⟨(ad233.add ((x5_1).toNat * 9)).block, (ad233.add ((x5_1).toNat * 9)).off + 3, none⟩ = some (.int .i64 ((rd_T95 l0 x5_1).f2)) ∧ w'.cell? ⟨(ad233.add ((x5_1).toNat * 9)).block, (ad233.add ((x5_1).toNat * 9)).off + 4, none⟩ = some (.int .i64 ((rd_T95 l0 x5_1).f3)) ∧ w'.cell? ⟨(ad233.add ((x5_1).toNat * 9)).block, (ad233.add ((x5_1).toNat * 9)).off + 5, none⟩ = some (.string ((rd_T95 l0 x5_1).f4.f0)) ∧ w'.cell? ⟨(ad233.add ((x5_1).toNat * 9)).block, (ad233.add ((x5_1).toNat * 9)).off + 6, none⟩ = some (.string ((rd_T95 l0 x5_1).f4.f1)) ∧ w'.cell? ⟨(ad233.add ((x5_1).toNat * 9)).block, (ad233.add ((x5_1).toNat * 9)).off + 7, none⟩ = some (.string ((rd_T95 l0 x5_1).f5)) ∧ w'.cell? ⟨(ad233.add ((x5_1).toNat * 9)).block, (ad233.add ((x5_1).toNat * 9)).off + 8, none⟩ = some (.string ((rd_T95 l0 x5_1).f6))) (ds := []) pkb9_0 (by kernel_rfl) rfl rfl ⟨((HB.out.cell (World.block_lt_of_cell? w _ hw240_0)).trans hw240_0), ((HB.out.cell (World.block_lt_of_cell? w _ hw240_1)).trans hw240_1), ((HB.out.cell (World.block_lt_of_cell? w _ hw240_2)).trans hw240_2), ((HB.out.cell (World.block_lt_of_cell? w _ hw240_3)).trans hw240_3), ((HB.out.cell (World.block_lt_of_cell? w _ hw240_4)).trans hw240_4), ((HB.out.cell (World.block_lt_of_cell? w _ hw240_5)).trans hw240_5), ((HB.out.cell (World.block_lt_of_cell? w _ hw240_6)).trans hw240_6), ((HB.out.cell (World.block_lt_of_cell? w _ hw240_7)).trans hw240_7), ((HB.out.cell (World.block_lt_of_cell? w _ hw240_8)).trans hw240_8)⟩ (fun hHeld => ?_); refine with_tabW laws_heldDirChangeS.tab22 laws_heldDirChangeS.bits22 (fun HT_ HW_ => ?_)
              generalize w27.drew = w28 at HB hx240_0 hx240_1 hx240_2 hx240_3 hx240_4 hx240_5 hx240_6 hx240_7 hx240_8 hHeld ⊢
              refine pure_ (i := 0) (N := some 70) (v := ?_) (a' := ?_) pkb9_1 rfl rfl (any_of HT_.out (by kernel_rfl)) (fun _ _ _ h => h) (Or.inl ⟨by rfl, ?_⟩) ?_ ?_; rotate_left; (intro w'; go_simp; with_reducible rfl); rotate_left; (simp only [Act.put, pk1, pk2, pk3, i64_w, i32_w]; rfl)
              refine pure_ (i := 1) (N := some 71) (v := ?_) (a' := ?_) pkb9_2 rfl rfl (any_of HT_.out (by kernel_rfl)) (fun _ _ _ h => h) (Or.inl ⟨by rfl, ?_⟩) ?_ ?_; rotate_left; (intro w'; go_simp; with_reducible rfl); rotate_left; (simp only [Act.put, pk1, pk2, pk3, i64_w, i32_w]; rfl)
              refine pure_ (i := 2) (N := some 72) (v := ?_) (a' := ?_) pkb9_3 rfl rfl (any_of HT_.out (by kernel_rfl)) (fun _ _ _ h => h) (Or.inl ⟨by rfl, ?_⟩) ?_ ?_; rotate_left; (intro w'; go_simp; with_reducible rfl); rotate_left; (simp only [Act.put, pk1, pk2, pk3, i64_w, i32_w]; rfl)
              refine pure_ (i := 3) (N := some 73) (v := ?_) (a' := ?_) pkb9_4 rfl rfl (any_of HT_.out (by kernel_rfl)) (fun _ _ _ h => h) (Or.inl ⟨by rfl, ?_⟩) ?_ ?_; rotate_left; (intro w'; go_simp; with_reducible rfl); rotate_left; (simp only [Act.put, pk1, pk2, pk3, i64_w, i32_w]; rfl)
              refine pure_ (i := 4) (N := some 74) (v := ?_) (a' := ?_) pkb9_5 rfl rfl (any_of HT_.out (by kernel_rfl)) (fun _ _ _ h => h) (Or.inl ⟨by rfl, ?_⟩) ?_ ?_; rotate_left; (intro w'; go_simp; with_reducible rfl); rotate_left; (simp only [Act.put, pk1, pk2, pk3, i64_w, i32_w]; rfl)
              refine pure_ (i := 6) (N := some 76) (v := ?_) (a' := ?_) #[true, true, true, true, true, false, true, false, false] rfl rfl (any_of HT_.out (by kernel_rfl)) (fun _ _ _ h => h) (Or.inl ⟨by rfl, ?_⟩) ?_ ?_; rotate_left; (intro w'; go_simp; with_reducible rfl); rotate_left; (simp only [Act.put, pk1, pk2, pk3, i64_w, i32_w]; rfl)
              refine take_ (i := 5) (N := some 75) (v := ?_) (a' := ?_) pkb9_7 rfl rfl (take_ofW HT_.out HW_.out (by kernel_rfl)) (fun _ _ _ h => h) (Or.inl ⟨by rfl, ?_⟩) hHeld ?_ ?_; rotate_left; (rintro w' ⟨s0, s1, s2, s3, s4, s5, s6, s7, s8⟩; go_simp; with_reducible rfl); rotate_left; (simp only [Act.put, pk1, pk2, pk3, i64_w, i32_w]; rfl)
              refine one_ (i := 7) (N := some 77) pkb9_8 rfl rfl (one_of HT_.out (by kernel_rfl)) (by decide) (fun K hK => ?_)
              refine goes_ Try.func67 (by kernel_rfl) rfl #[.int .i64 (wrap64 ((wrap64 ((wrap64 ((wrap64 ((wrap64 ((wrap64 (x1_1 + 1)) + 1)) + 1)) + 1)) + 1)) + 1))] (by rfl) rfl rfl (by (try simp only [List.map_toArray, List.map_cons, List.map_nil]); first | done | rfl | (simp only [List.length_drop, List.length_take]; rfl)) ?_
              with_reducible refine (laws_markText.calls k1 (wrap64 ((wrap64 ((wrap64 ((wrap64 ((wrap64 ((wrap64 (x1_1 + 1)) + 1)) + 1)) + 1)) + 1)) + 1)) t241 _ A12.out).mono ?_
              rintro e w29 ⟨rfl, hb⟩
              refine ⟨_, rfl, ?_⟩
              have n0_ := Aside0.mk (below_step (by repeat (first | (with_reducible first | exact HB.out | apply pkA | apply pkN | apply pkD) | exact HB.out)) hb)
              clear HB
              have HB := n0_
              clear n0_
              (try clear hb)
              (try clear hb2)
              (try clear hk)
              (try clear hi)
              refine hK.out _ _ ⟨((HB.out.cell (World.block_lt_of_cell? w _ hw240_0)).trans hw240_0), ((HB.out.cell (World.block_lt_of_cell? w _ hw240_1)).trans hw240_1), ((HB.out.cell (World.block_lt_of_cell? w _ hw240_2)).trans hw240_2), ((HB.out.cell (World.block_lt_of_cell? w _ hw240_3)).trans hw240_3), ((HB.out.cell (World.block_lt_of_cell? w _ hw240_4)).trans hw240_4), ((HB.out.cell (World.block_lt_of_cell? w _ hw240_5)).trans hw240_5), ((HB.out.cell (World.block_lt_of_cell? w _ hw240_6)).trans hw240_6), ((HB.out.cell (World.block_lt_of_cell? w _ hw240_7)).trans hw240_7), ((HB.out.cell (World.block_lt_of_cell? w _ hw240_8)).trans hw240_8)⟩ (fun hHeld => ?_)
              clear hK K
              refine norm_ (a' := ?_) ?_ ?_
              rotate_left
              ·show Act.put _ (some 77) _ = _
               simp only [Act.put, pk1, pk2, pk3, i64_w, i32_w]
               rfl
              refine pure_ (i := 8) (N := some 78) (v := ?_) (a' := ?_) pkb9_9 rfl rfl (any_of HT_.out (by kernel_rfl)) (fun _ _ _ h => h) (Or.inl ⟨by rfl, ?_⟩) ?_ ?_; rotate_left; (intro w'; go_simp; with_reducible rfl); rotate_left; (simp only [Act.put, pk1, pk2, pk3, i64_w, i32_w]; rfl)
              refine done_ (done_of HT_.out (by kernel_rfl)) ?_
              try go_wp2
              have n0_ := Aside0.mk (pkD HB.out)
              clear HB
              have HB := n0_
              clear n0_
              have p242 : 0 ≤ (x5_1 : Int) := of_decide_eq_true (by first | (with_reducible assumption) | assumption)
              have q242 : x5_1 < (l0.length : Int) := of_decide_eq_true (by first | (with_reducible assumption) | assumption)
              obtain ⟨ad242, e242, hx242_0, hx242_1, hx242_2, hx242_3, hx242_4, hx242_5, hx242_6, hx242_7, hx242_8⟩ := at_T95 HR0.out x5_1 p242 q242
              have hw242_8 := hx242_8
              have hw242_7 := hx242_7
              have hw242_6 := hx242_6
              have hw242_5 := hx242_5
              have hw242_4 := hx242_4
              have hw242_3 := hx242_3
              have hw242_2 := hx242_2
              have hw242_1 := hx242_1
              have hw242_0 := hx242_0
              obtain rfl : ad233 = ad242 := (by injection e242)
              obtain ⟨hx242_0, hx242_1, hx242_2, hx242_3, hx242_4, hx242_5, hx242_6, hx242_7, hx242_8⟩ := pk_up9 HB.out hx242_0 hx242_1 hx242_2 hx242_3 hx242_4 hx242_5 hx242_6 hx242_7 hx242_8
              replace p242 := eq_true p242
              replace q242 := eq_true q242
              refine start_ (n := 8) (S := fun w' => w'.cell? (ad233.add ((x5_1).toNat * 9)) = some (.int .i64 ((rd_T95 l0 x5_1).f0.f0)) ∧ w'.cell? ⟨(ad233.add ((x5_1).toNat * 9)).block, (ad233.add ((x5_1).toNat * 9)).off + 1, none⟩ = some (.int .i64 ((rd_T95 l0 x5_1).f0.f1)) ∧ w'.cell? ⟨(ad233.add ((x5_1).toNat * 9)).block, (ad233.add ((x5_1).toNat * 9)).off + 2, none⟩ = some (.int .i64 ((rd_T95 l0 x5_1).f1)) ∧ w'.cell? ⟨(ad233.add ((x5_1).toNat * 9)).block, (ad233.add ((x5_1).toNat * 9)).off + 3, none⟩ = some (.int .i64 ((rd_T95 l0 x5_1).f2)) ∧ w'.cell? ⟨(ad233.add ((x5_1).toNat * 9)).block, (ad233.add ((x5_1).toNat * 9)).off + 4, none⟩ = some (.int .i64 ((rd_T95 l0 x5_1).f3)) ∧ w'.cell? ⟨(ad233.add ((x5_1).toNat * 9)).block, (ad233.add ((x5_1).toNat * 9)).off + 5, none⟩ = some (.string ((rd_T95 l0 x5_1).f4.f0)) ∧ w'.cell? ⟨(ad233.add ((x5_1).toNat * 9)).block, (ad233.add ((x5_1).toNat * 9)).off + 6, none⟩ = some (.string ((rd_T95 l0 x5_1).f4.f1)) ∧ w'.cell? ⟨(ad233.add ((x5_1).toNat * 9)).block, (ad233.add ((x5_1).toNat * 9)).off + 7, none⟩ = some (.string ((rd_T95 l0 x5_1).f5)) ∧ w'.cell? ⟨(ad233.add ((x5_1).toNat * 9)).block, (ad233.add ((x5_1).toNat * 9)).off + 8, none⟩ = some (.string ((rd_T95 l0 x5_1).f6))) (ds := []) pkb8_0 (by kernel_rfl) rfl rfl ⟨((HB.out.cell (World.block_lt_of_cell? w _ hw242_0)).trans hw242_0), ((HB.out.cell (World.block_lt_of_cell? w _ hw242_1)).trans hw242_1), ((HB.out.cell (World.block_lt_of_cell? w _ hw242_2)).trans hw242_2), ((HB.out.cell (World.block_lt_of_cell? w _ hw242_3)).trans hw242_3), ((HB.out.cell (World.block_lt_of_cell? w _ hw242_4)).trans hw242_4), ((HB.out.cell (World.block_lt_of_cell? w _ hw242_5)).trans hw242_5), ((HB.out.cell (World.block_lt_of_cell? w _ hw242_6)).trans hw242_6), ((HB.out.cell (World.block_lt_of_cell? w _ hw242_7)).trans hw242_7), ((HB.out.cell (World.block_lt_of_cell? w _ hw242_8)).trans hw242_8)⟩ (fun hHeld => ?_); refine with_tabW laws_heldDirChangeS.tab25 laws_heldDirChangeS.bits25 (fun HT_ HW_ => ?_)
              generalize w29.drew = w30 at HB hx242_0 hx242_1 hx242_2 hx242_3 hx242_4 hx242_5 hx242_6 hx242_7 hx242_8 hHeld ⊢
              refine pure_ (i := 0) (N := some 81) (v := ?_) (a' := ?_) pkb8_1 rfl rfl (any_of HT_.out (by kernel_rfl)) (fun _ _ _ h => h) (Or.inl ⟨by rfl, ?_⟩) ?_ ?_; rotate_left; (intro w'; go_simp; with_reducible rfl); rotate_left; (simp only [Act.put, pk1, pk2, pk3, i64_w, i32_w]; rfl)
              refine pure_ (i := 1) (N := some 82) (v := ?_) (a' := ?_) pkb8_2 rfl rfl (any_of HT_.out (by kernel_rfl)) (fun _ _ _ h => h) (Or.inl ⟨by rfl, ?_⟩) ?_ ?_; rotate_left; (intro w'; go_simp; with_reducible rfl); rotate_left; (simp only [Act.put, pk1, pk2, pk3, i64_w, i32_w]; rfl)
              refine pure_ (i := 2) (N := some 83) (v := ?_) (a' := ?_) pkb8_3 rfl rfl (any_of HT_.out (by kernel_rfl)) (fun _ _ _ h => h) (Or.inl ⟨by rfl, ?_⟩) ?_ ?_; rotate_left; (intro w'; go_simp; with_reducible rfl); rotate_left; (simp only [Act.put, pk1, pk2, pk3, i64_w, i32_w]; rfl)
              refine pure_ (i := 3) (N := some 84) (v := ?_) (a' := ?_) pkb8_4 rfl rfl (any_of HT_.out (by kernel_rfl)) (fun _ _ _ h => h) (Or.inl ⟨by rfl, ?_⟩) ?_ ?_; rotate_left; (intro w'; go_simp; with_reducible rfl); rotate_left; (simp only [Act.put, pk1, pk2, pk3, i64_w, i32_w]; rfl)
              refine pure_ (i := 5) (N := some 86) (v := ?_) (a' := ?_) #[true, true, true, true, false, true, false, false] rfl rfl (any_of HT_.out (by kernel_rfl)) (fun _ _ _ h => h) (Or.inl ⟨by rfl, ?_⟩) ?_ ?_; rotate_left; (intro w'; go_simp; with_reducible rfl); rotate_left; (simp only [Act.put, pk1, pk2, pk3, i64_w, i32_w]; rfl)
              refine take_ (i := 4) (N := some 85) (v := ?_) (a' := ?_) pkb8_6 rfl rfl (take_ofW HT_.out HW_.out (by kernel_rfl)) (fun _ _ _ h => h) (Or.inl ⟨by rfl, ?_⟩) hHeld ?_ ?_; rotate_left; (rintro w' ⟨s0, s1, s2, s3, s4, s5, s6, s7, s8⟩; go_simp; with_reducible rfl); rotate_left; (simp only [Act.put, pk1, pk2, pk3, i64_w, i32_w]; rfl)
              refine one_ (i := 6) (N := some 87) pkb8_7 rfl rfl (one_of HT_.out (by kernel_rfl)) (by decide) (fun K hK => ?_)
              refine goes_ Try.func67 (by kernel_rfl) rfl #[.int .i64 (wrap64 ((wrap64 ((wrap64 ((wrap64 ((wrap64 ((wrap64 ((wrap64 (x1_1 + 1)) + 1)) + 1)) + 1)) + 1)) + 1)) + 1))] (by rfl) rfl rfl (by (try simp only [List.map_toArray, List.map_cons, List.map_nil]); first | done | rfl | (simp only [List.length_drop, List.length_take]; rfl)) ?_
              with_reducible refine (laws_markText.calls k1 (wrap64 ((wrap64 ((wrap64 ((wrap64 ((wrap64 ((wrap64 ((wrap64 (x1_1 + 1)) + 1)) + 1)) + 1)) + 1)) + 1)) + 1)) t243 _ A14.out).mono ?_
              rintro e w31 ⟨rfl, hb⟩
              refine ⟨_, rfl, ?_⟩
              have n0_ := Aside0.mk (below_step (by repeat (first | (with_reducible first | exact HB.out | apply pkA | apply pkN | apply pkD) | exact HB.out)) hb)
              clear HB
              have HB := n0_
              clear n0_
              (try clear hb)
              (try clear hb2)
              (try clear hk)
              (try clear hi)
              refine hK.out _ _ ⟨((HB.out.cell (World.block_lt_of_cell? w _ hw242_0)).trans hw242_0), ((HB.out.cell (World.block_lt_of_cell? w _ hw242_1)).trans hw242_1), ((HB.out.cell (World.block_lt_of_cell? w _ hw242_2)).trans hw242_2), ((HB.out.cell (World.block_lt_of_cell? w _ hw242_3)).trans hw242_3), ((HB.out.cell (World.block_lt_of_cell? w _ hw242_4)).trans hw242_4), ((HB.out.cell (World.block_lt_of_cell? w _ hw242_5)).trans hw242_5), ((HB.out.cell (World.block_lt_of_cell? w _ hw242_6)).trans hw242_6), ((HB.out.cell (World.block_lt_of_cell? w _ hw242_7)).trans hw242_7), ((HB.out.cell (World.block_lt_of_cell? w _ hw242_8)).trans hw242_8)⟩ (fun hHeld => ?_)
              clear hK K
              refine norm_ (a' := ?_) ?_ ?_
              rotate_left
              ·show Act.put _ (some 87) _ = _
               simp only [Act.put, pk1, pk2, pk3, i64_w, i32_w]
               rfl
              refine pure_ (i := 7) (N := some 88) (v := ?_) (a' := ?_) pkb8_8 rfl rfl (any_of HT_.out (by kernel_rfl)) (fun _ _ _ h => h) (Or.inl ⟨by rfl, ?_⟩) ?_ ?_; rotate_left; (intro w'; go_simp; with_reducible rfl); rotate_left; (simp only [Act.put, pk1, pk2, pk3, i64_w, i32_w]; rfl)
              refine done_ (done_of HT_.out (by kernel_rfl)) ?_
              try go_wp2
              have n0_ := Aside0.mk (pkD HB.out)
              clear HB
              have HB := n0_
              clear n0_
              have p244 : 0 ≤ (x5_1 : Int) := of_decide_eq_true (by first | (with_reducible assumption) | assumption)
              have q244 : x5_1 < (l0.length : Int) := of_decide_eq_true (by first | (with_reducible assumption) | assumption)
              obtain ⟨ad244, e244, hx244_0, hx244_1, hx244_2, hx244_3, hx244_4, hx244_5, hx244_6, hx244_7, hx244_8⟩ := at_T95 HR0.out x5_1 p244 q244
              have hw244_8 := hx244_8
              have hw244_7 := hx244_7
              have hw244_6 := hx244_6
              have hw244_5 := hx244_5
              have hw244_4 := hx244_4
              have hw244_3 := hx244_3
              have hw244_2 := hx244_2
              have hw244_1 := hx244_1
              have hw244_0 := hx244_0
              obtain rfl : ad233 = ad244 := (by injection e244)
              obtain ⟨hx244_0, hx244_1, hx244_2, hx244_3, hx244_4, hx244_5, hx244_6, hx244_7, hx244_8⟩ := pk_up9 HB.out hx244_0 hx244_1 hx244_2 hx244_3 hx244_4 hx244_5 hx244_6 hx244_7 hx244_8
              replace p244 := eq_true p244
              replace q244 := eq_true q244
              refine start_ (n := 8) (S := fun w' => w'.cell? (ad233.add ((x5_1).toNat * 9)) = some (.int .i64 ((rd_T95 l0 x5_1).f0.f0)) ∧ w'.cell? ⟨(ad233.add ((x5_1).toNat * 9)).block, (ad233.add ((x5_1).toNat * 9)).off + 1, none⟩ = some (.int .i64 ((rd_T95 l0 x5_1).f0.f1)) ∧ w'.cell? ⟨(ad233.add ((x5_1).toNat * 9)).block, (ad233.add ((x5_1).toNat * 9)).off + 2, none⟩ = some (.int .i64 ((rd_T95 l0 x5_1).f1)) ∧ w'.cell? ⟨(ad233.add ((x5_1).toNat * 9)).block, (ad233.add ((x5_1).toNat * 9)).off + 3, none⟩ = some (.int .i64 ((rd_T95 l0 x5_1).f2)) ∧ w'.cell? ⟨(ad233.add ((x5_1).toNat * 9)).block, (ad233.add ((x5_1).toNat * 9)).off + 4, none⟩ = some (.int .i64 ((rd_T95 l0 x5_1).f3)) ∧ w'.cell? ⟨(ad233.add ((x5_1).toNat * 9)).block, (ad233.add ((x5_1).toNat * 9)).off + 5, none⟩ = some (.string ((rd_T95 l0 x5_1).f4.f0)) ∧ w'.cell? ⟨(ad233.add ((x5_1).toNat * 9)).block, (ad233.add ((x5_1).toNat * 9)).off + 6, none⟩ = some (.string ((rd_T95 l0 x5_1).f4.f1)) ∧ w'.cell? ⟨(ad233.add ((x5_1).toNat * 9)).block, (ad233.add ((x5_1).toNat * 9)).off + 7, none⟩ = some (.string ((rd_T95 l0 x5_1).f5)) ∧ w'.cell? ⟨(ad233.add ((x5_1).toNat * 9)).block, (ad233.add ((x5_1).toNat * 9)).off + 8, none⟩ = some (.string ((rd_T95 l0 x5_1).f6))) (ds := []) pkb8_0 (by kernel_rfl) rfl rfl ⟨((HB.out.cell (World.block_lt_of_cell? w _ hw244_0)).trans hw244_0), ((HB.out.cell (World.block_lt_of_cell? w _ hw244_1)).trans hw244_1), ((HB.out.cell (World.block_lt_of_cell? w _ hw244_2)).trans hw244_2), ((HB.out.cell (World.block_lt_of_cell? w _ hw244_3)).trans hw244_3), ((HB.out.cell (World.block_lt_of_cell? w _ hw244_4)).trans hw244_4), ((HB.out.cell (World.block_lt_of_cell? w _ hw244_5)).trans hw244_5), ((HB.out.cell (World.block_lt_of_cell? w _ hw244_6)).trans hw244_6), ((HB.out.cell (World.block_lt_of_cell? w _ hw244_7)).trans hw244_7), ((HB.out.cell (World.block_lt_of_cell? w _ hw244_8)).trans hw244_8)⟩ (fun hHeld => ?_); refine with_tabW laws_heldDirChangeS.tab28 laws_heldDirChangeS.bits28 (fun HT_ HW_ => ?_)
              generalize w31.drew = w32 at HB hx244_0 hx244_1 hx244_2 hx244_3 hx244_4 hx244_5 hx244_6 hx244_7 hx244_8 hHeld ⊢
              refine pure_ (i := 0) (N := some 91) (v := ?_) (a' := ?_) pkb8_1 rfl rfl (any_of HT_.out (by kernel_rfl)) (fun _ _ _ h => h) (Or.inl ⟨by rfl, ?_⟩) ?_ ?_; rotate_left; (intro w'; go_simp; with_reducible rfl); rotate_left; (simp only [Act.put, pk1, pk2, pk3, i64_w, i32_w]; rfl)
              refine pure_ (i := 1) (N := some 92) (v := ?_) (a' := ?_) pkb8_2 rfl rfl (any_of HT_.out (by kernel_rfl)) (fun _ _ _ h => h) (Or.inl ⟨by rfl, ?_⟩) ?_ ?_; rotate_left; (intro w'; go_simp; with_reducible rfl); rotate_left; (simp only [Act.put, pk1, pk2, pk3, i64_w, i32_w]; rfl)
              refine pure_ (i := 2) (N := some 93) (v := ?_) (a' := ?_) pkb8_3 rfl rfl (any_of HT_.out (by kernel_rfl)) (fun _ _ _ h => h) (Or.inl ⟨by rfl, ?_⟩) ?_ ?_; rotate_left; (intro w'; go_simp; with_reducible rfl); rotate_left; (simp only [Act.put, pk1, pk2, pk3, i64_w, i32_w]; rfl)
              refine pure_ (i := 3) (N := some 94) (v := ?_) (a' := ?_) pkb8_4 rfl rfl (any_of HT_.out (by kernel_rfl)) (fun _ _ _ h => h) (Or.inl ⟨by rfl, ?_⟩) ?_ ?_; rotate_left; (intro w'; go_simp; with_reducible rfl); rotate_left; (simp only [Act.put, pk1, pk2, pk3, i64_w, i32_w]; rfl)
              refine pure_ (i := 5) (N := some 96) (v := ?_) (a' := ?_) #[true, true, true, true, false, true, false, false] rfl rfl (any_of HT_.out (by kernel_rfl)) (fun _ _ _ h => h) (Or.inl ⟨by rfl, ?_⟩) ?_ ?_; rotate_left; (intro w'; go_simp; with_reducible rfl); rotate_left; (simp only [Act.put, pk1, pk2, pk3, i64_w, i32_w]; rfl)
              refine take_ (i := 4) (N := some 95) (v := ?_) (a' := ?_) pkb8_6 rfl rfl (take_ofW HT_.out HW_.out (by kernel_rfl)) (fun _ _ _ h => h) (Or.inl ⟨by rfl, ?_⟩) hHeld ?_ ?_; rotate_left; (rintro w' ⟨s0, s1, s2, s3, s4, s5, s6, s7, s8⟩; go_simp; with_reducible rfl); rotate_left; (simp only [Act.put, pk1, pk2, pk3, i64_w, i32_w]; rfl)
              refine one_ (i := 6) (N := some 97) pkb8_7 rfl rfl (one_of HT_.out (by kernel_rfl)) (by decide) (fun K hK => ?_)
              refine goes_ Try.func67 (by kernel_rfl) rfl #[.int .i64 (wrap64 ((wrap64 ((wrap64 ((wrap64 ((wrap64 ((wrap64 ((wrap64 ((wrap64 (x1_1 + 1)) + 1)) + 1)) + 1)) + 1)) + 1)) + 1)) + 1))] (by rfl) rfl rfl (by (try simp only [List.map_toArray, List.map_cons, List.map_nil]); first | done | rfl | (simp only [List.length_drop, List.length_take]; rfl)) ?_
              with_reducible refine (laws_markText.calls k1 (wrap64 ((wrap64 ((wrap64 ((wrap64 ((wrap64 ((wrap64 ((wrap64 ((wrap64 (x1_1 + 1)) + 1)) + 1)) + 1)) + 1)) + 1)) + 1)) + 1)) t245 _ A16.out).mono ?_
              rintro e w33 ⟨rfl, hb⟩
              refine ⟨_, rfl, ?_⟩
              have n0_ := Aside0.mk (below_step (by repeat (first | (with_reducible first | exact HB.out | apply pkA | apply pkN | apply pkD) | exact HB.out)) hb)
              clear HB
              have HB := n0_
              clear n0_
              (try clear hb)
              (try clear hb2)
              (try clear hk)
              (try clear hi)
              refine hK.out _ _ ⟨((HB.out.cell (World.block_lt_of_cell? w _ hw244_0)).trans hw244_0), ((HB.out.cell (World.block_lt_of_cell? w _ hw244_1)).trans hw244_1), ((HB.out.cell (World.block_lt_of_cell? w _ hw244_2)).trans hw244_2), ((HB.out.cell (World.block_lt_of_cell? w _ hw244_3)).trans hw244_3), ((HB.out.cell (World.block_lt_of_cell? w _ hw244_4)).trans hw244_4), ((HB.out.cell (World.block_lt_of_cell? w _ hw244_5)).trans hw244_5), ((HB.out.cell (World.block_lt_of_cell? w _ hw244_6)).trans hw244_6), ((HB.out.cell (World.block_lt_of_cell? w _ hw244_7)).trans hw244_7), ((HB.out.cell (World.block_lt_of_cell? w _ hw244_8)).trans hw244_8)⟩ (fun hHeld => ?_)
              clear hK K
              refine norm_ (a' := ?_) ?_ ?_
              rotate_left
              ·show Act.put _ (some 97) _ = _
               simp only [Act.put, pk1, pk2, pk3, i64_w, i32_w]
               rfl
              refine pure_ (i := 7) (N := some 98) (v := ?_) (a' := ?_) pkb8_8 rfl rfl (any_of HT_.out (by kernel_rfl)) (fun _ _ _ h => h) (Or.inl ⟨by rfl, ?_⟩) ?_ ?_; rotate_left; (intro w'; go_simp; with_reducible rfl); rotate_left; (simp only [Act.put, pk1, pk2, pk3, i64_w, i32_w]; rfl)
              refine done_ (done_of HT_.out (by kernel_rfl)) ?_
              try go_wp2
              go_ret
              exact ⟨by first | rfl | (simp [errW_none, errW_some] <;> rfl) | (simp [*, errW_none, errW_some] <;> rfl), by repeat (first | (with_reducible first | exact HB.out | apply pkA | apply pkN | apply pkD) | exact HB.out)⟩
            ·rw [if_neg c15] at H
             have c15b0 : (((rd_T95 l0 x5_1).f5).toList == t243.toList) = false := beq_eq_false_iff_ne.mpr c15
             have c15b1 : (((rd_T95 l0 x5_1).f5).toList != t243.toList) = true := bne_iff_ne.mpr c15
             obtain rfl := Option.some.inj H
             have p233 : 0 ≤ (x5_1 : Int) := of_decide_eq_true (by first | (with_reducible assumption) | assumption)
             have q233 : x5_1 < (l0.length : Int) := of_decide_eq_true (by first | (with_reducible assumption) | assumption)
             obtain ⟨ad233, e233, hx233_0, hx233_1, hx233_2, hx233_3, hx233_4, hx233_5, hx233_6, hx233_7, hx233_8⟩ := at_T95 HR0.out x5_1 p233 q233
             cases e233
             obtain ⟨hx233_0, hx233_1, hx233_2, hx233_3, hx233_4, hx233_5, hx233_6, hx233_7, hx233_8⟩ := pk_up9 HB.out hx233_0 hx233_1 hx233_2 hx233_3 hx233_4 hx233_5 hx233_6 hx233_7 hx233_8
             replace p233 := eq_true p233
             replace q233 := eq_true q233
             have p234 : 0 ≤ (x5_1 : Int) := of_decide_eq_true (by first | (with_reducible assumption) | assumption)
             have q234 : x5_1 < (l0.length : Int) := of_decide_eq_true (by first | (with_reducible assumption) | assumption)
             obtain ⟨ad234, e234, hx234_0, hx234_1, hx234_2, hx234_3, hx234_4, hx234_5, hx234_6, hx234_7, hx234_8⟩ := at_T95 HR0.out x5_1 p234 q234
             obtain rfl : ad233 = ad234 := (by injection e234)
             obtain ⟨hx234_0, hx234_1, hx234_2, hx234_3, hx234_4, hx234_5, hx234_6, hx234_7, hx234_8⟩ := pk_up9 HB.out hx234_0 hx234_1 hx234_2 hx234_3 hx234_4 hx234_5 hx234_6 hx234_7 hx234_8
             replace p234 := eq_true p234
             replace q234 := eq_true q234
             have p235 : 0 ≤ (x5_1 : Int) := of_decide_eq_true (by first | (with_reducible assumption) | assumption)
             have q235 : x5_1 < (l0.length : Int) := of_decide_eq_true (by first | (with_reducible assumption) | assumption)
             obtain ⟨ad235, e235, hx235_0, hx235_1, hx235_2, hx235_3, hx235_4, hx235_5, hx235_6, hx235_7, hx235_8⟩ := at_T95 HR0.out x5_1 p235 q235
             obtain rfl : ad233 = ad235 := (by injection e235)
             obtain ⟨hx235_0, hx235_1, hx235_2, hx235_3, hx235_4, hx235_5, hx235_6, hx235_7, hx235_8⟩ := pk_up9 HB.out hx235_0 hx235_1 hx235_2 hx235_3 hx235_4 hx235_5 hx235_6 hx235_7 hx235_8
             replace p235 := eq_true p235
             replace q235 := eq_true q235
             have p236 : 0 ≤ (x5_1 : Int) := of_decide_eq_true (by first | (with_reducible assumption) | assumption)
             have q236 : x5_1 < (l0.length : Int) := of_decide_eq_true (by first | (with_reducible assumption) | assumption)
             obtain ⟨ad236, e236, hx236_0, hx236_1, hx236_2, hx236_3, hx236_4, hx236_5, hx236_6, hx236_7, hx236_8⟩ := at_T95 HR0.out x5_1 p236 q236
             obtain rfl : ad233 = ad236 := (by injection e236)
             obtain ⟨hx236_0, hx236_1, hx236_2, hx236_3, hx236_4, hx236_5, hx236_6, hx236_7, hx236_8⟩ := pk_up9 HB.out hx236_0 hx236_1 hx236_2 hx236_3 hx236_4 hx236_5 hx236_6 hx236_7 hx236_8
             replace p236 := eq_true p236
             replace q236 := eq_true q236
             have p237 : 0 ≤ (x5_1 : Int) := of_decide_eq_true (by first | (with_reducible assumption) | assumption)
             have q237 : x5_1 < (l0.length : Int) := of_decide_eq_true (by first | (with_reducible assumption) | assumption)
             obtain ⟨ad237, e237, hx237_0, hx237_1, hx237_2, hx237_3, hx237_4, hx237_5, hx237_6, hx237_7, hx237_8⟩ := at_T95 HR0.out x5_1 p237 q237
             obtain rfl : ad233 = ad237 := (by injection e237)
             obtain ⟨hx237_0, hx237_1, hx237_2, hx237_3, hx237_4, hx237_5, hx237_6, hx237_7, hx237_8⟩ := pk_up9 HB.out hx237_0 hx237_1 hx237_2 hx237_3 hx237_4 hx237_5 hx237_6 hx237_7 hx237_8
             replace p237 := eq_true p237
             replace q237 := eq_true q237
             try go_wp2
             have n0_ := Aside0.mk (pkD HB.out)
             clear HB
             have HB := n0_
             clear n0_
             have p238 : 0 ≤ (x5_1 : Int) := of_decide_eq_true (by first | (with_reducible assumption) | assumption)
             have q238 : x5_1 < (l0.length : Int) := of_decide_eq_true (by first | (with_reducible assumption) | assumption)
             obtain ⟨ad238, e238, hx238_0, hx238_1, hx238_2, hx238_3, hx238_4, hx238_5, hx238_6, hx238_7, hx238_8⟩ := at_T95 HR0.out x5_1 p238 q238
             have hw238_8 := hx238_8
             have hw238_7 := hx238_7
             have hw238_6 := hx238_6
             have hw238_5 := hx238_5
             have hw238_4 := hx238_4
             have hw238_3 := hx238_3
             have hw238_2 := hx238_2
             have hw238_1 := hx238_1
             have hw238_0 := hx238_0
             obtain rfl : ad233 = ad238 := (by injection e238)
             obtain ⟨hx238_0, hx238_1, hx238_2, hx238_3, hx238_4, hx238_5, hx238_6, hx238_7, hx238_8⟩ := pk_up9 HB.out hx238_0 hx238_1 hx238_2 hx238_3 hx238_4 hx238_5 hx238_6 hx238_7 hx238_8
             replace p238 := eq_true p238
             replace q238 := eq_true q238
             refine start_ (n := 9) (S := fun w' => w'.cell? (ad233.add ((x5_1).toNat * 9)) = some (.int .i64 ((rd_T95 l0 x5_1).f0.f0)) ∧ w'.cell? ⟨(ad233.add ((x5_1).toNat * 9)).block, (ad233.add ((x5_1).toNat * 9)).off + 1, none⟩ = some (.int .i64 ((rd_T95 l0 x5_1).f0.f1)) ∧ w'.cell? ⟨(ad233.add ((x5_1).toNat * 9)).block, (ad233.add ((x5_1).toNat * 9)).off + 2, none⟩ = some (.int .i64 ((rd_T95 l0 x5_1).f1)) ∧ w'.cell? ⟨(ad233.add ((x5_1).toNat * 9)).block, (ad233.add ((x5_1).toNat * 9)).off + 3, none⟩ = some (.int .i64 ((rd_T95 l0 x5_1).f2)) ∧ w'.cell? ⟨(ad233.add ((x5_1).toNat * 9)).block, (ad233.add ((x5_1).toNat * 9)).off + 4, none⟩ = some (.int .i64 ((rd_T95 l0 x5_1).f3)) ∧ w'.cell? ⟨(ad233.add ((x5_1).toNat * 9)).block, (ad233.add ((x5_1).toNat * 9)).off + 5, none⟩ = some (.string ((rd_T95 l0 x5_1).f4.f0)) ∧ w'.cell? ⟨(ad233.add ((x5_1).toNat * 9)).block, (ad233.add ((x5_1).toNat * 9)).off + 6, none⟩ = some (.string ((rd_T95 l0 x5_1).f4.f1)) ∧ w'.cell? ⟨(ad233.add ((x5_1).toNat * 9)).block, (ad233.add ((x5_1).toNat * 9)).off + 7, none⟩ = some (.string ((rd_T95 l0 x5_1).f5)) ∧ w'.cell? ⟨(ad233.add ((x5_1).toNat * 9)).block, (ad233.add ((x5_1).toNat * 9)).off + 8, none⟩ = some (.string ((rd_T95 l0 x5_1).f6))) (ds := []) pkb9_0 (by kernel_rfl) rfl rfl ⟨((HB.out.cell (World.block_lt_of_cell? w _ hw238_0)).trans hw238_0), ((HB.out.cell (World.block_lt_of_cell? w _ hw238_1)).trans hw238_1), ((HB.out.cell (World.block_lt_of_cell? w _ hw238_2)).trans hw238_2), ((HB.out.cell (World.block_lt_of_cell? w _ hw238_3)).trans hw238_3), ((HB.out.cell (World.block_lt_of_cell? w _ hw238_4)).trans hw238_4), ((HB.out.cell (World.block_lt_of_cell? w _ hw238_5)).trans hw238_5), ((HB.out.cell (World.block_lt_of_cell? w _ hw238_6)).trans hw238_6), ((HB.out.cell (World.block_lt_of_cell? w _ hw238_7)).trans hw238_7), ((HB.out.cell (World.block_lt_of_cell? w _ hw238_8)).trans hw238_8)⟩ (fun hHeld => ?_); refine with_tabW laws_heldDirChangeS.tab19 laws_heldDirChangeS.bits19 (fun HT_ HW_ => ?_)
             generalize wr.drew = w34 at HB hx238_0 hx238_1 hx238_2 hx238_3 hx238_4 hx238_5 hx238_6 hx238_7 hx238_8 hHeld ⊢
             refine pure_ (i := 0) (N := some 59) (v := ?_) (a' := ?_) pkb9_1 rfl rfl (any_of HT_.out (by kernel_rfl)) (fun _ _ _ h => h) (Or.inl ⟨by rfl, ?_⟩) ?_ ?_; rotate_left; (intro w'; go_simp; with_reducible rfl); rotate_left; (simp only [Act.put, pk1, pk2, pk3, i64_w, i32_w]; rfl)
             refine pure_ (i := 1) (N := some 60) (v := ?_) (a' := ?_) pkb9_2 rfl rfl (any_of HT_.out (by kernel_rfl)) (fun _ _ _ h => h) (Or.inl ⟨by rfl, ?_⟩) ?_ ?_; rotate_left; (intro w'; go_simp; with_reducible rfl); rotate_left; (simp only [Act.put, pk1, pk2, pk3, i64_w, i32_w]; rfl)
             refine pure_ (i := 2) (N := some 61) (v := ?_) (a' := ?_) pkb9_3 rfl rfl (any_of HT_.out (by kernel_rfl)) (fun _ _ _ h => h) (Or.inl ⟨by rfl, ?_⟩) ?_ ?_; rotate_left; (intro w'; go_simp; with_reducible rfl); rotate_left; (simp only [Act.put, pk1, pk2, pk3, i64_w, i32_w]; rfl)
             refine pure_ (i := 3) (N := some 62) (v := ?_) (a' := ?_) pkb9_4 rfl rfl (any_of HT_.out (by kernel_rfl)) (fun _ _ _ h => h) (Or.inl ⟨by rfl, ?_⟩) ?_ ?_; rotate_left; (intro w'; go_simp; with_reducible rfl); rotate_left; (simp only [Act.put, pk1, pk2, pk3, i64_w, i32_w]; rfl)
             refine pure_ (i := 4) (N := some 63) (v := ?_) (a' := ?_) pkb9_5 rfl rfl (any_of HT_.out (by kernel_rfl)) (fun _ _ _ h => h) (Or.inl ⟨by rfl, ?_⟩) ?_ ?_; rotate_left; (intro w'; go_simp; with_reducible rfl); rotate_left; (simp only [Act.put, pk1, pk2, pk3, i64_w, i32_w]; rfl)
             refine pure_ (i := 6) (N := some 65) (v := ?_) (a' := ?_) #[true, true, true, true, true, false, true, false, false] rfl rfl (any_of HT_.out (by kernel_rfl)) (fun _ _ _ h => h) (Or.inl ⟨by rfl, ?_⟩) ?_ ?_; rotate_left; (intro w'; go_simp; with_reducible rfl); rotate_left; (simp only [Act.put, pk1, pk2, pk3, i64_w, i32_w]; rfl)
             refine take_ (i := 5) (N := some 64) (v := ?_) (a' := ?_) pkb9_7 rfl rfl (take_ofW HT_.out HW_.out (by kernel_rfl)) (fun _ _ _ h => h) (Or.inl ⟨by rfl, ?_⟩) hHeld ?_ ?_; rotate_left; (rintro w' ⟨s0, s1, s2, s3, s4, s5, s6, s7, s8⟩; go_simp; with_reducible rfl); rotate_left; (simp only [Act.put, pk1, pk2, pk3, i64_w, i32_w]; rfl)
             refine one_ (i := 7) (N := some 66) pkb9_8 rfl rfl (one_of HT_.out (by kernel_rfl)) (by decide) (fun K hK => ?_)
             refine goes_ Try.func67 (by kernel_rfl) rfl #[.int .i64 (wrap64 ((wrap64 ((wrap64 ((wrap64 ((wrap64 (x1_1 + 1)) + 1)) + 1)) + 1)) + 1))] (by rfl) rfl rfl (by (try simp only [List.map_toArray, List.map_cons, List.map_nil]); first | done | rfl | (simp only [List.length_drop, List.length_take]; rfl)) ?_
             with_reducible refine (laws_markText.calls k1 (wrap64 ((wrap64 ((wrap64 ((wrap64 ((wrap64 (x1_1 + 1)) + 1)) + 1)) + 1)) + 1)) t239 _ A10.out).mono ?_
             rintro e w35 ⟨rfl, hb⟩
             refine ⟨_, rfl, ?_⟩
             have n0_ := Aside0.mk (below_step (by repeat (first | (with_reducible first | exact HB.out | apply pkA | apply pkN | apply pkD) | exact HB.out)) hb)
             clear HB
             have HB := n0_
             clear n0_
             (try clear hb)
             (try clear hb2)
             (try clear hk)
             (try clear hi)
             refine hK.out _ _ ⟨((HB.out.cell (World.block_lt_of_cell? w _ hw238_0)).trans hw238_0), ((HB.out.cell (World.block_lt_of_cell? w _ hw238_1)).trans hw238_1), ((HB.out.cell (World.block_lt_of_cell? w _ hw238_2)).trans hw238_2), ((HB.out.cell (World.block_lt_of_cell? w _ hw238_3)).trans hw238_3), ((HB.out.cell (World.block_lt_of_cell? w _ hw238_4)).trans hw238_4), ((HB.out.cell (World.block_lt_of_cell? w _ hw238_5)).trans hw238_5), ((HB.out.cell (World.block_lt_of_cell? w _ hw238_6)).trans hw238_6), ((HB.out.cell (World.block_lt_of_cell? w _ hw238_7)).trans hw238_7), ((HB.out.cell (World.block_lt_of_cell? w _ hw238_8)).trans hw238_8)⟩ (fun hHeld => ?_)
             clear hK K
             refine norm_ (a' := ?_) ?_ ?_
             rotate_left
             ·show Act.put _ (some 66) _ = _
              simp only [Act.put, pk1, pk2, pk3, i64_w, i32_w]
              rfl
             refine pure_ (i := 8) (N := some 67) (v := ?_) (a' := ?_) pkb9_9 rfl rfl (any_of HT_.out (by kernel_rfl)) (fun _ _ _ h => h) (Or.inl ⟨by rfl, ?_⟩) ?_ ?_; rotate_left; (intro w'; go_simp; with_reducible rfl); rotate_left; (simp only [Act.put, pk1, pk2, pk3, i64_w, i32_w]; rfl)
             refine done_ (done_of HT_.out (by kernel_rfl)) ?_
             try go_wp2
             have n0_ := Aside0.mk (pkD HB.out)
             clear HB
             have HB := n0_
             clear n0_
             have p240 : 0 ≤ (x5_1 : Int) := of_decide_eq_true (by first | (with_reducible assumption) | assumption)
             have q240 : x5_1 < (l0.length : Int) := of_decide_eq_true (by first | (with_reducible assumption) | assumption)
             obtain ⟨ad240, e240, hx240_0, hx240_1, hx240_2, hx240_3, hx240_4, hx240_5, hx240_6, hx240_7, hx240_8⟩ := at_T95 HR0.out x5_1 p240 q240
             have hw240_8 := hx240_8
             have hw240_7 := hx240_7
             have hw240_6 := hx240_6
             have hw240_5 := hx240_5
             have hw240_4 := hx240_4
             have hw240_3 := hx240_3
             have hw240_2 := hx240_2
             have hw240_1 := hx240_1
             have hw240_0 := hx240_0
             obtain rfl : ad233 = ad240 := (by injection e240)
             obtain ⟨hx240_0, hx240_1, hx240_2, hx240_3, hx240_4, hx240_5, hx240_6, hx240_7, hx240_8⟩ := pk_up9 HB.out hx240_0 hx240_1 hx240_2 hx240_3 hx240_4 hx240_5 hx240_6 hx240_7 hx240_8
             replace p240 := eq_true p240
             replace q240 := eq_true q240
             refine start_ (n := 9) (S := fun w' => w'.cell? (ad233.add ((x5_1).toNat * 9)) = some (.int .i64 ((rd_T95 l0 x5_1).f0.f0)) ∧ w'.cell? ⟨(ad233.add ((x5_1).toNat * 9)).block, (ad233.add ((x5_1).toNat * 9)).off + 1, none⟩ = some (.int .i64 ((rd_T95 l0 x5_1).f0.f1)) ∧ w'.cell? ⟨(ad233.add ((x5_1).toNat * 9)).block, (ad233.add ((x5_1).toNat * 9)).off + 2, none⟩ = some (.int .i64 ((rd_T95 l0 x5_1).f1)) ∧ w'.cell? ⟨(ad233.add ((x5_1).toNat * 9)).block, (ad233.add ((x5_1).toNat * 9)).off + 3, none⟩ = some (.int .i64 ((rd_T95 l0 x5_1).f2)) ∧ w'.cell? ⟨(ad233.add ((x5_1).toNat * 9)).block, (ad233.add ((x5_1).toNat * 9)).off + 4, none⟩ = some (.int .i64 ((rd_T95 l0 x5_1).f3)) ∧ w'.cell? ⟨(ad233.add ((x5_1).toNat * 9)).block, (ad233.add ((x5_1).toNat * 9)).off + 5, none⟩ = some (.string ((rd_T95 l0 x5_1).f4.f0)) ∧ w'.cell? ⟨(ad233.add ((x5_1).toNat * 9)).block, (ad233.add ((x5_1).toNat * 9)).off + 6, none⟩ = some (.string ((rd_T95 l0 x5_1).f4.f1)) ∧ w'.cell? ⟨(ad233.add ((x5_1).toNat * 9)).block, (ad233.add ((x5_1).toNat * 9)).off + 7, none⟩ = some (.string ((rd_T95 l0 x5_1).f5)) ∧ w'.cell? ⟨(ad233.add ((x5_1).toNat * 9)).block, (ad233.add ((x5_1).toNat * 9)).off + 8, none⟩ = some (.string ((rd_T95 l0 x5_1).f6))) (ds := []) pkb9_0 (by kernel_rfl) rfl rfl ⟨((HB.out.cell (World.block_lt_of_cell? w _ hw240_0)).trans hw240_0), ((HB.out.cell (World.block_lt_of_cell? w _ hw240_1)).trans hw240_1), ((HB.out.cell (World.block_lt_of_cell? w _ hw240_2)).trans hw240_2), ((HB.out.cell (World.block_lt_of_cell? w _ hw240_3)).trans hw240_3), ((HB.out.cell (World.block_lt_of_cell? w _ hw240_4)).trans hw240_4), ((HB.out.cell (World.block_lt_of_cell? w _ hw240_5)).trans hw240_5), ((HB.out.cell (World.block_lt_of_cell? w _ hw240_6)).trans hw240_6), ((HB.out.cell (World.block_lt_of_cell? w _ hw240_7)).trans hw240_7), ((HB.out.cell (World.block_lt_of_cell? w _ hw240_8)).trans hw240_8)⟩ (fun hHeld => ?_); refine with_tabW laws_heldDirChangeS.tab22 laws_heldDirChangeS.bits22 (fun HT_ HW_ => ?_)
             generalize w35.drew = w36 at HB hx240_0 hx240_1 hx240_2 hx240_3 hx240_4 hx240_5 hx240_6 hx240_7 hx240_8 hHeld ⊢
             refine pure_ (i := 0) (N := some 70) (v := ?_) (a' := ?_) pkb9_1 rfl rfl (any_of HT_.out (by kernel_rfl)) (fun _ _ _ h => h) (Or.inl ⟨by rfl, ?_⟩) ?_ ?_; rotate_left; (intro w'; go_simp; with_reducible rfl); rotate_left; (simp only [Act.put, pk1, pk2, pk3, i64_w, i32_w]; rfl)
             refine pure_ (i := 1) (N := some 71) (v := ?_) (a' := ?_) pkb9_2 rfl rfl (any_of HT_.out (by kernel_rfl)) (fun _ _ _ h => h) (Or.inl ⟨by rfl, ?_⟩) ?_ ?_; rotate_left; (intro w'; go_simp; with_reducible rfl); rotate_left; (simp only [Act.put, pk1, pk2, pk3, i64_w, i32_w]; rfl)
             refine pure_ (i := 2) (N := some 72) (v := ?_) (a' := ?_) pkb9_3 rfl rfl (any_of HT_.out (by kernel_rfl)) (fun _ _ _ h => h) (Or.inl ⟨by rfl, ?_⟩) ?_ ?_; rotate_left; (intro w'; go_simp; with_reducible rfl); rotate_left; (simp only [Act.put, pk1, pk2, pk3, i64_w, i32_w]; rfl)
             refine pure_ (i := 3) (N := some 73) (v := ?_) (a' := ?_) pkb9_4 rfl rfl (any_of HT_.out (by kernel_rfl)) (fun _ _ _ h => h) (Or.inl ⟨by rfl, ?_⟩) ?_ ?_; rotate_left; (intro w'; go_simp; with_reducible rfl); rotate_left; (simp only [Act.put, pk1, pk2, pk3, i64_w, i32_w]; rfl)
             refine pure_ (i := 4) (N := some 74) (v := ?_) (a' := ?_) pkb9_5 rfl rfl (any_of HT_.out (by kernel_rfl)) (fun _ _ _ h => h) (Or.inl ⟨by rfl, ?_⟩) ?_ ?_; rotate_left; (intro w'; go_simp; with_reducible rfl); rotate_left; (simp only [Act.put, pk1, pk2, pk3, i64_w, i32_w]; rfl)
             refine pure_ (i := 6) (N := some 76) (v := ?_) (a' := ?_) #[true, true, true, true, true, false, true, false, false] rfl rfl (any_of HT_.out (by kernel_rfl)) (fun _ _ _ h => h) (Or.inl ⟨by rfl, ?_⟩) ?_ ?_; rotate_left; (intro w'; go_simp; with_reducible rfl); rotate_left; (simp only [Act.put, pk1, pk2, pk3, i64_w, i32_w]; rfl)
             refine take_ (i := 5) (N := some 75) (v := ?_) (a' := ?_) pkb9_7 rfl rfl (take_ofW HT_.out HW_.out (by kernel_rfl)) (fun _ _ _ h => h) (Or.inl ⟨by rfl, ?_⟩) hHeld ?_ ?_; rotate_left; (rintro w' ⟨s0, s1, s2, s3, s4, s5, s6, s7, s8⟩; go_simp; with_reducible rfl); rotate_left; (simp only [Act.put, pk1, pk2, pk3, i64_w, i32_w]; rfl)
             refine one_ (i := 7) (N := some 77) pkb9_8 rfl rfl (one_of HT_.out (by kernel_rfl)) (by decide) (fun K hK => ?_)
             refine goes_ Try.func67 (by kernel_rfl) rfl #[.int .i64 (wrap64 ((wrap64 ((wrap64 ((wrap64 ((wrap64 ((wrap64 (x1_1 + 1)) + 1)) + 1)) + 1)) + 1)) + 1))] (by rfl) rfl rfl (by (try simp only [List.map_toArray, List.map_cons, List.map_nil]); first | done | rfl | (simp only [List.length_drop, List.length_take]; rfl)) ?_
             with_reducible refine (laws_markText.calls k1 (wrap64 ((wrap64 ((wrap64 ((wrap64 ((wrap64 ((wrap64 (x1_1 + 1)) + 1)) + 1)) + 1)) + 1)) + 1)) t241 _ A12.out).mono ?_
             rintro e w37 ⟨rfl, hb⟩
             refine ⟨_, rfl, ?_⟩
             have n0_ := Aside0.mk (below_step (by repeat (first | (with_reducible first | exact HB.out | apply pkA | apply pkN | apply pkD) | exact HB.out)) hb)
             clear HB
             have HB := n0_
             clear n0_
             (try clear hb)
             (try clear hb2)
             (try clear hk)
             (try clear hi)
             refine hK.out _ _ ⟨((HB.out.cell (World.block_lt_of_cell? w _ hw240_0)).trans hw240_0), ((HB.out.cell (World.block_lt_of_cell? w _ hw240_1)).trans hw240_1), ((HB.out.cell (World.block_lt_of_cell? w _ hw240_2)).trans hw240_2), ((HB.out.cell (World.block_lt_of_cell? w _ hw240_3)).trans hw240_3), ((HB.out.cell (World.block_lt_of_cell? w _ hw240_4)).trans hw240_4), ((HB.out.cell (World.block_lt_of_cell? w _ hw240_5)).trans hw240_5), ((HB.out.cell (World.block_lt_of_cell? w _ hw240_6)).trans hw240_6), ((HB.out.cell (World.block_lt_of_cell? w _ hw240_7)).trans hw240_7), ((HB.out.cell (World.block_lt_of_cell? w _ hw240_8)).trans hw240_8)⟩ (fun hHeld => ?_)
             clear hK K
             refine norm_ (a' := ?_) ?_ ?_
             rotate_left
             ·show Act.put _ (some 77) _ = _
              simp only [Act.put, pk1, pk2, pk3, i64_w, i32_w]
              rfl
             refine pure_ (i := 8) (N := some 78) (v := ?_) (a' := ?_) pkb9_9 rfl rfl (any_of HT_.out (by kernel_rfl)) (fun _ _ _ h => h) (Or.inl ⟨by rfl, ?_⟩) ?_ ?_; rotate_left; (intro w'; go_simp; with_reducible rfl); rotate_left; (simp only [Act.put, pk1, pk2, pk3, i64_w, i32_w]; rfl)
             refine done_ (done_of HT_.out (by kernel_rfl)) ?_
             try go_wp2
             have n0_ := Aside0.mk (pkD HB.out)
             clear HB
             have HB := n0_
             clear n0_
             have p242 : 0 ≤ (x5_1 : Int) := of_decide_eq_true (by first | (with_reducible assumption) | assumption)
             have q242 : x5_1 < (l0.length : Int) := of_decide_eq_true (by first | (with_reducible assumption) | assumption)
             obtain ⟨ad242, e242, hx242_0, hx242_1, hx242_2, hx242_3, hx242_4, hx242_5, hx242_6, hx242_7, hx242_8⟩ := at_T95 HR0.out x5_1 p242 q242
             have hw242_8 := hx242_8
             have hw242_7 := hx242_7
             have hw242_6 := hx242_6
             have hw242_5 := hx242_5
             have hw242_4 := hx242_4
             have hw242_3 := hx242_3
             have hw242_2 := hx242_2
             have hw242_1 := hx242_1
             have hw242_0 := hx242_0
             obtain rfl : ad233 = ad242 := (by injection e242)
             obtain ⟨hx242_0, hx242_1, hx242_2, hx242_3, hx242_4, hx242_5, hx242_6, hx242_7, hx242_8⟩ := pk_up9 HB.out hx242_0 hx242_1 hx242_2 hx242_3 hx242_4 hx242_5 hx242_6 hx242_7 hx242_8
             replace p242 := eq_true p242
             replace q242 := eq_true q242
             refine start_ (n := 8) (S := fun w' => w'.cell? (ad233.add ((x5_1).toNat * 9)) = some (.int .i64 ((rd_T95 l0 x5_1).f0.f0)) ∧ w'.cell? ⟨(ad233.add ((x5_1).toNat * 9)).block, (ad233.add ((x5_1).toNat * 9)).off + 1, none⟩ = some (.int .i64 ((rd_T95 l0 x5_1).f0.f1)) ∧ w'.cell? ⟨(ad233.add ((x5_1).toNat * 9)).block, (ad233.add ((x5_1).toNat * 9)).off + 2, none⟩ = some (.int .i64 ((rd_T95 l0 x5_1).f1)) ∧ w'.cell? ⟨(ad233.add ((x5_1).toNat * 9)).block, (ad233.add ((x5_1).toNat * 9)).off + 3, none⟩ = some (.int .i64 ((rd_T95 l0 x5_1).f2)) ∧ w'.cell? ⟨(ad233.add ((x5_1).toNat * 9)).block, (ad233.add ((x5_1).toNat * 9)).off + 4, none⟩ = some (.int .i64 ((rd_T95 l0 x5_1).f3)) ∧ w'.cell? ⟨(ad233.add ((x5_1).toNat * 9)).block, (ad233.add ((x5_1).toNat * 9)).off + 5, none⟩ = some (.string ((rd_T95 l0 x5_1).f4.f0)) ∧ w'.cell? ⟨(ad233.add ((x5_1).toNat * 9)).block, (ad233.add ((x5_1).toNat * 9)).off + 6, none⟩ = some (.string ((rd_T95 l0 x5_1).f4.f1)) ∧ w'.cell? ⟨(ad233.add ((x5_1).toNat * 9)).block, (ad233.add ((x5_1).toNat * 9)).off + 7, none⟩ = some (.string ((rd_T95 l0 x5_1).f5)) ∧ w'.cell? ⟨(ad233.add ((x5_1).toNat * 9)).block, (ad233.add ((x5_1).toNat * 9)).off + 8, none⟩ = some (.string ((rd_T95 l0 x5_1).f6))) (ds := []) pkb8_0 (by kernel_rfl) rfl rfl ⟨((HB.out.cell (World.block_lt_of_cell? w _ hw242_0)).trans hw242_0), ((HB.out.cell (World.block_lt_of_cell? w _ hw242_1)).trans hw242_1), ((HB.out.cell (World.block_lt_of_cell? w _ hw242_2)).trans hw242_2), ((HB.out.cell (World.block_lt_of_cell? w _ hw242_3)).trans hw242_3), ((HB.out.cell (World.block_lt_of_cell? w _ hw242_4)).trans hw242_4), ((HB.out.cell (World.block_lt_of_cell? w _ hw242_5)).trans hw242_5), ((HB.out.cell (World.block_lt_of_cell? w _ hw242_6)).trans hw242_6), ((HB.out.cell (World.block_lt_of_cell? w _ hw242_7)).trans hw242_7), ((HB.out.cell (World.block_lt_of_cell? w _ hw242_8)).trans hw242_8)⟩ (fun hHeld => ?_); refine with_tabW laws_heldDirChangeS.tab25 laws_heldDirChangeS.bits25 (fun HT_ HW_ => ?_)
             generalize w37.drew = w38 at HB hx242_0 hx242_1 hx242_2 hx242_3 hx242_4 hx242_5 hx242_6 hx242_7 hx242_8 hHeld ⊢
             refine pure_ (i := 0) (N := some 81) (v := ?_) (a' := ?_) pkb8_1 rfl rfl (any_of HT_.out (by kernel_rfl)) (fun _ _ _ h => h) (Or.inl ⟨by rfl, ?_⟩) ?_ ?_; rotate_left; (intro w'; go_simp; with_reducible rfl); rotate_left; (simp only [Act.put, pk1, pk2, pk3, i64_w, i32_w]; rfl)
             refine pure_ (i := 1) (N := some 82) (v := ?_) (a' := ?_) pkb8_2 rfl rfl (any_of HT_.out (by kernel_rfl)) (fun _ _ _ h => h) (Or.inl ⟨by rfl, ?_⟩) ?_ ?_; rotate_left; (intro w'; go_simp; with_reducible rfl); rotate_left; (simp only [Act.put, pk1, pk2, pk3, i64_w, i32_w]; rfl)
             refine pure_ (i := 2) (N := some 83) (v := ?_) (a' := ?_) pkb8_3 rfl rfl (any_of HT_.out (by kernel_rfl)) (fun _ _ _ h => h) (Or.inl ⟨by rfl, ?_⟩) ?_ ?_; rotate_left; (intro w'; go_simp; with_reducible rfl); rotate_left; (simp only [Act.put, pk1, pk2, pk3, i64_w, i32_w]; rfl)
             refine pure_ (i := 3) (N := some 84) (v := ?_) (a' := ?_) pkb8_4 rfl rfl (any_of HT_.out (by kernel_rfl)) (fun _ _ _ h => h) (Or.inl ⟨by rfl, ?_⟩) ?_ ?_; rotate_left; (intro w'; go_simp; with_reducible rfl); rotate_left; (simp only [Act.put, pk1, pk2, pk3, i64_w, i32_w]; rfl)
             refine pure_ (i := 5) (N := some 86) (v := ?_) (a' := ?_) #[true, true, true, true, false, true, false, false] rfl rfl (any_of HT_.out (by kernel_rfl)) (fun _ _ _ h => h) (Or.inl ⟨by rfl, ?_⟩) ?_ ?_; rotate_left; (intro w'; go_simp; with_reducible rfl); rotate_left; (simp only [Act.put, pk1, pk2, pk3, i64_w, i32_w]; rfl)
             refine take_ (i := 4) (N := some 85) (v := ?_) (a' := ?_) pkb8_6 rfl rfl (take_ofW HT_.out HW_.out (by kernel_rfl)) (fun _ _ _ h => h) (Or.inl ⟨by rfl, ?_⟩) hHeld ?_ ?_; rotate_left; (rintro w' ⟨s0, s1, s2, s3, s4, s5, s6, s7, s8⟩; go_simp; with_reducible rfl); rotate_left; (simp only [Act.put, pk1, pk2, pk3, i64_w, i32_w]; rfl)
             refine one_ (i := 6) (N := some 87) pkb8_7 rfl rfl (one_of HT_.out (by kernel_rfl)) (by decide) (fun K hK => ?_)
             refine goes_ Try.func67 (by kernel_rfl) rfl #[.int .i64 (wrap64 ((wrap64 ((wrap64 ((wrap64 ((wrap64 ((wrap64 ((wrap64 (x1_1 + 1)) + 1)) + 1)) + 1)) + 1)) + 1)) + 1))] (by rfl) rfl rfl (by (try simp only [List.map_toArray, List.map_cons, List.map_nil]); first | done | rfl | (simp only [List.length_drop, List.length_take]; rfl)) ?_
             with_reducible refine (laws_markText.calls k1 (wrap64 ((wrap64 ((wrap64 ((wrap64 ((wrap64 ((wrap64 ((wrap64 (x1_1 + 1)) + 1)) + 1)) + 1)) + 1)) + 1)) + 1)) t243 _ A14.out).mono ?_
             rintro e w39 ⟨rfl, hb⟩
             refine ⟨_, rfl, ?_⟩
             have n0_ := Aside0.mk (below_step (by repeat (first | (with_reducible first | exact HB.out | apply pkA | apply pkN | apply pkD) | exact HB.out)) hb)
             clear HB
             have HB := n0_
             clear n0_
             (try clear hb)
             (try clear hb2)
             (try clear hk)
             (try clear hi)
             refine hK.out _ _ ⟨((HB.out.cell (World.block_lt_of_cell? w _ hw242_0)).trans hw242_0), ((HB.out.cell (World.block_lt_of_cell? w _ hw242_1)).trans hw242_1), ((HB.out.cell (World.block_lt_of_cell? w _ hw242_2)).trans hw242_2), ((HB.out.cell (World.block_lt_of_cell? w _ hw242_3)).trans hw242_3), ((HB.out.cell (World.block_lt_of_cell? w _ hw242_4)).trans hw242_4), ((HB.out.cell (World.block_lt_of_cell? w _ hw242_5)).trans hw242_5), ((HB.out.cell (World.block_lt_of_cell? w _ hw242_6)).trans hw242_6), ((HB.out.cell (World.block_lt_of_cell? w _ hw242_7)).trans hw242_7), ((HB.out.cell (World.block_lt_of_cell? w _ hw242_8)).trans hw242_8)⟩ (fun hHeld => ?_)
             clear hK K
             refine norm_ (a' := ?_) ?_ ?_
             rotate_left
             ·show Act.put _ (some 87) _ = _
              simp only [Act.put, pk1, pk2, pk3, i64_w, i32_w]
              rfl
             refine pure_ (i := 7) (N := some 88) (v := ?_) (a' := ?_) pkb8_8 rfl rfl (any_of HT_.out (by kernel_rfl)) (fun _ _ _ h => h) (Or.inl ⟨by rfl, ?_⟩) ?_ ?_; rotate_left; (intro w'; go_simp; with_reducible rfl); rotate_left; (simp only [Act.put, pk1, pk2, pk3, i64_w, i32_w]; rfl)
             refine done_ (done_of HT_.out (by kernel_rfl)) ?_
             try go_wp2
             go_ret
             exact ⟨by first | rfl | (simp [errW_none, errW_some] <;> rfl) | (simp [*, errW_none, errW_some] <;> rfl), by repeat (first | (with_reducible first | exact HB.out | apply pkA | apply pkN | apply pkD) | exact HB.out)⟩
           ·rw [if_neg c13] at H
            have c13b0 : (((rd_T95 l0 x5_1).f4.f1).toList == t241.toList) = false := beq_eq_false_iff_ne.mpr c13
            have c13b1 : (((rd_T95 l0 x5_1).f4.f1).toList != t241.toList) = true := bne_iff_ne.mpr c13
            obtain rfl := Option.some.inj H
            have p233 : 0 ≤ (x5_1 : Int) := of_decide_eq_true (by first | (with_reducible assumption) | assumption)
            have q233 : x5_1 < (l0.length : Int) := of_decide_eq_true (by first | (with_reducible assumption) | assumption)
            obtain ⟨ad233, e233, hx233_0, hx233_1, hx233_2, hx233_3, hx233_4, hx233_5, hx233_6, hx233_7, hx233_8⟩ := at_T95 HR0.out x5_1 p233 q233
            cases e233
            obtain ⟨hx233_0, hx233_1, hx233_2, hx233_3, hx233_4, hx233_5, hx233_6, hx233_7, hx233_8⟩ := pk_up9 HB.out hx233_0 hx233_1 hx233_2 hx233_3 hx233_4 hx233_5 hx233_6 hx233_7 hx233_8
            replace p233 := eq_true p233
            replace q233 := eq_true q233
            have p234 : 0 ≤ (x5_1 : Int) := of_decide_eq_true (by first | (with_reducible assumption) | assumption)
            have q234 : x5_1 < (l0.length : Int) := of_decide_eq_true (by first | (with_reducible assumption) | assumption)
            obtain ⟨ad234, e234, hx234_0, hx234_1, hx234_2, hx234_3, hx234_4, hx234_5, hx234_6, hx234_7, hx234_8⟩ := at_T95 HR0.out x5_1 p234 q234
            obtain rfl : ad233 = ad234 := (by injection e234)
            obtain ⟨hx234_0, hx234_1, hx234_2, hx234_3, hx234_4, hx234_5, hx234_6, hx234_7, hx234_8⟩ := pk_up9 HB.out hx234_0 hx234_1 hx234_2 hx234_3 hx234_4 hx234_5 hx234_6 hx234_7 hx234_8
            replace p234 := eq_true p234
            replace q234 := eq_true q234
            have p235 : 0 ≤ (x5_1 : Int) := of_decide_eq_true (by first | (with_reducible assumption) | assumption)
            have q235 : x5_1 < (l0.length : Int) := of_decide_eq_true (by first | (with_reducible assumption) | assumption)
            obtain ⟨ad235, e235, hx235_0, hx235_1, hx235_2, hx235_3, hx235_4, hx235_5, hx235_6, hx235_7, hx235_8⟩ := at_T95 HR0.out x5_1 p235 q235
            obtain rfl : ad233 = ad235 := (by injection e235)
            obtain ⟨hx235_0, hx235_1, hx235_2, hx235_3, hx235_4, hx235_5, hx235_6, hx235_7, hx235_8⟩ := pk_up9 HB.out hx235_0 hx235_1 hx235_2 hx235_3 hx235_4 hx235_5 hx235_6 hx235_7 hx235_8
            replace p235 := eq_true p235
            replace q235 := eq_true q235
            have p236 : 0 ≤ (x5_1 : Int) := of_decide_eq_true (by first | (with_reducible assumption) | assumption)
            have q236 : x5_1 < (l0.length : Int) := of_decide_eq_true (by first | (with_reducible assumption) | assumption)
            obtain ⟨ad236, e236, hx236_0, hx236_1, hx236_2, hx236_3, hx236_4, hx236_5, hx236_6, hx236_7, hx236_8⟩ := at_T95 HR0.out x5_1 p236 q236
            obtain rfl : ad233 = ad236 := (by injection e236)
            obtain ⟨hx236_0, hx236_1, hx236_2, hx236_3, hx236_4, hx236_5, hx236_6, hx236_7, hx236_8⟩ := pk_up9 HB.out hx236_0 hx236_1 hx236_2 hx236_3 hx236_4 hx236_5 hx236_6 hx236_7 hx236_8
            replace p236 := eq_true p236
            replace q236 := eq_true q236
            have p237 : 0 ≤ (x5_1 : Int) := of_decide_eq_true (by first | (with_reducible assumption) | assumption)
            have q237 : x5_1 < (l0.length : Int) := of_decide_eq_true (by first | (with_reducible assumption) | assumption)
            obtain ⟨ad237, e237, hx237_0, hx237_1, hx237_2, hx237_3, hx237_4, hx237_5, hx237_6, hx237_7, hx237_8⟩ := at_T95 HR0.out x5_1 p237 q237
            obtain rfl : ad233 = ad237 := (by injection e237)
            obtain ⟨hx237_0, hx237_1, hx237_2, hx237_3, hx237_4, hx237_5, hx237_6, hx237_7, hx237_8⟩ := pk_up9 HB.out hx237_0 hx237_1 hx237_2 hx237_3 hx237_4 hx237_5 hx237_6 hx237_7 hx237_8
            replace p237 := eq_true p237
            replace q237 := eq_true q237
            try go_wp2
            have n0_ := Aside0.mk (pkD HB.out)
            clear HB
            have HB := n0_
            clear n0_
            have p238 : 0 ≤ (x5_1 : Int) := of_decide_eq_true (by first | (with_reducible assumption) | assumption)
            have q238 : x5_1 < (l0.length : Int) := of_decide_eq_true (by first | (with_reducible assumption) | assumption)
            obtain ⟨ad238, e238, hx238_0, hx238_1, hx238_2, hx238_3, hx238_4, hx238_5, hx238_6, hx238_7, hx238_8⟩ := at_T95 HR0.out x5_1 p238 q238
            have hw238_8 := hx238_8
            have hw238_7 := hx238_7
            have hw238_6 := hx238_6
            have hw238_5 := hx238_5
            have hw238_4 := hx238_4
            have hw238_3 := hx238_3
            have hw238_2 := hx238_2
            have hw238_1 := hx238_1
            have hw238_0 := hx238_0
            obtain rfl : ad233 = ad238 := (by injection e238)
            obtain ⟨hx238_0, hx238_1, hx238_2, hx238_3, hx238_4, hx238_5, hx238_6, hx238_7, hx238_8⟩ := pk_up9 HB.out hx238_0 hx238_1 hx238_2 hx238_3 hx238_4 hx238_5 hx238_6 hx238_7 hx238_8
            replace p238 := eq_true p238
            replace q238 := eq_true q238
            refine start_ (n := 9) (S := fun w' => w'.cell? (ad233.add ((x5_1).toNat * 9)) = some (.int .i64 ((rd_T95 l0 x5_1).f0.f0)) ∧ w'.cell? ⟨(ad233.add ((x5_1).toNat * 9)).block, (ad233.add ((x5_1).toNat * 9)).off + 1, none⟩ = some (.int .i64 ((rd_T95 l0 x5_1).f0.f1)) ∧ w'.cell? ⟨(ad233.add ((x5_1).toNat * 9)).block, (ad233.add ((x5_1).toNat * 9)).off + 2, none⟩ = some (.int .i64 ((rd_T95 l0 x5_1).f1)) ∧ w'.cell? ⟨(ad233.add ((x5_1).toNat * 9)).block, (ad233.add ((x5_1).toNat * 9)).off + 3, none⟩ = some (.int .i64 ((rd_T95 l0 x5_1).f2)) ∧ w'.cell? ⟨(ad233.add ((x5_1).toNat * 9)).block, (ad233.add ((x5_1).toNat * 9)).off + 4, none⟩ = some (.int .i64 ((rd_T95 l0 x5_1).f3)) ∧ w'.cell? ⟨(ad233.add ((x5_1).toNat * 9)).block, (ad233.add ((x5_1).toNat * 9)).off + 5, none⟩ = some (.string ((rd_T95 l0 x5_1).f4.f0)) ∧ w'.cell? ⟨(ad233.add ((x5_1).toNat * 9)).block, (ad233.add ((x5_1).toNat * 9)).off + 6, none⟩ = some (.string ((rd_T95 l0 x5_1).f4.f1)) ∧ w'.cell? ⟨(ad233.add ((x5_1).toNat * 9)).block, (ad233.add ((x5_1).toNat * 9)).off + 7, none⟩ = some (.string ((rd_T95 l0 x5_1).f5)) ∧ w'.cell? ⟨(ad233.add ((x5_1).toNat * 9)).block, (ad233.add ((x5_1).toNat * 9)).off + 8, none⟩ = some (.string ((rd_T95 l0 x5_1).f6))) (ds := []) pkb9_0 (by kernel_rfl) rfl rfl ⟨((HB.out.cell (World.block_lt_of_cell? w _ hw238_0)).trans hw238_0), ((HB.out.cell (World.block_lt_of_cell? w _ hw238_1)).trans hw238_1), ((HB.out.cell (World.block_lt_of_cell? w _ hw238_2)).trans hw238_2), ((HB.out.cell (World.block_lt_of_cell? w _ hw238_3)).trans hw238_3), ((HB.out.cell (World.block_lt_of_cell? w _ hw238_4)).trans hw238_4), ((HB.out.cell (World.block_lt_of_cell? w _ hw238_5)).trans hw238_5), ((HB.out.cell (World.block_lt_of_cell? w _ hw238_6)).trans hw238_6), ((HB.out.cell (World.block_lt_of_cell? w _ hw238_7)).trans hw238_7), ((HB.out.cell (World.block_lt_of_cell? w _ hw238_8)).trans hw238_8)⟩ (fun hHeld => ?_); refine with_tabW laws_heldDirChangeS.tab19 laws_heldDirChangeS.bits19 (fun HT_ HW_ => ?_)
            generalize wr.drew = w40 at HB hx238_0 hx238_1 hx238_2 hx238_3 hx238_4 hx238_5 hx238_6 hx238_7 hx238_8 hHeld ⊢
            refine pure_ (i := 0) (N := some 59) (v := ?_) (a' := ?_) pkb9_1 rfl rfl (any_of HT_.out (by kernel_rfl)) (fun _ _ _ h => h) (Or.inl ⟨by rfl, ?_⟩) ?_ ?_; rotate_left; (intro w'; go_simp; with_reducible rfl); rotate_left; (simp only [Act.put, pk1, pk2, pk3, i64_w, i32_w]; rfl)
            refine pure_ (i := 1) (N := some 60) (v := ?_) (a' := ?_) pkb9_2 rfl rfl (any_of HT_.out (by kernel_rfl)) (fun _ _ _ h => h) (Or.inl ⟨by rfl, ?_⟩) ?_ ?_; rotate_left; (intro w'; go_simp; with_reducible rfl); rotate_left; (simp only [Act.put, pk1, pk2, pk3, i64_w, i32_w]; rfl)
            refine pure_ (i := 2) (N := some 61) (v := ?_) (a' := ?_) pkb9_3 rfl rfl (any_of HT_.out (by kernel_rfl)) (fun _ _ _ h => h) (Or.inl ⟨by rfl, ?_⟩) ?_ ?_; rotate_left; (intro w'; go_simp; with_reducible rfl); rotate_left; (simp only [Act.put, pk1, pk2, pk3, i64_w, i32_w]; rfl)
            refine pure_ (i := 3) (N := some 62) (v := ?_) (a' := ?_) pkb9_4 rfl rfl (any_of HT_.out (by kernel_rfl)) (fun _ _ _ h => h) (Or.inl ⟨by rfl, ?_⟩) ?_ ?_; rotate_left; (intro w'; go_simp; with_reducible rfl); rotate_left; (simp only [Act.put, pk1, pk2, pk3, i64_w, i32_w]; rfl)
            refine pure_ (i := 4) (N := some 63) (v := ?_) (a' := ?_) pkb9_5 rfl rfl (any_of HT_.out (by kernel_rfl)) (fun _ _ _ h => h) (Or.inl ⟨by rfl, ?_⟩) ?_ ?_; rotate_left; (intro w'; go_simp; with_reducible rfl); rotate_left; (simp only [Act.put, pk1, pk2, pk3, i64_w, i32_w]; rfl)
            refine pure_ (i := 6) (N := some 65) (v := ?_) (a' := ?_) #[true, true, true, true, true, false, true, false, false] rfl rfl (any_of HT_.out (by kernel_rfl)) (fun _ _ _ h => h) (Or.inl ⟨by rfl, ?_⟩) ?_ ?_; rotate_left; (intro w'; go_simp; with_reducible rfl); rotate_left; (simp only [Act.put, pk1, pk2, pk3, i64_w, i32_w]; rfl)
            refine take_ (i := 5) (N := some 64) (v := ?_) (a' := ?_) pkb9_7 rfl rfl (take_ofW HT_.out HW_.out (by kernel_rfl)) (fun _ _ _ h => h) (Or.inl ⟨by rfl, ?_⟩) hHeld ?_ ?_; rotate_left; (rintro w' ⟨s0, s1, s2, s3, s4, s5, s6, s7, s8⟩; go_simp; with_reducible rfl); rotate_left; (simp only [Act.put, pk1, pk2, pk3, i64_w, i32_w]; rfl)
            refine one_ (i := 7) (N := some 66) pkb9_8 rfl rfl (one_of HT_.out (by kernel_rfl)) (by decide) (fun K hK => ?_)
            refine goes_ Try.func67 (by kernel_rfl) rfl #[.int .i64 (wrap64 ((wrap64 ((wrap64 ((wrap64 ((wrap64 (x1_1 + 1)) + 1)) + 1)) + 1)) + 1))] (by rfl) rfl rfl (by (try simp only [List.map_toArray, List.map_cons, List.map_nil]); first | done | rfl | (simp only [List.length_drop, List.length_take]; rfl)) ?_
            with_reducible refine (laws_markText.calls k1 (wrap64 ((wrap64 ((wrap64 ((wrap64 ((wrap64 (x1_1 + 1)) + 1)) + 1)) + 1)) + 1)) t239 _ A10.out).mono ?_
            rintro e w41 ⟨rfl, hb⟩
            refine ⟨_, rfl, ?_⟩
            have n0_ := Aside0.mk (below_step (by repeat (first | (with_reducible first | exact HB.out | apply pkA | apply pkN | apply pkD) | exact HB.out)) hb)
            clear HB
            have HB := n0_
            clear n0_
            (try clear hb)
            (try clear hb2)
            (try clear hk)
            (try clear hi)
            refine hK.out _ _ ⟨((HB.out.cell (World.block_lt_of_cell? w _ hw238_0)).trans hw238_0), ((HB.out.cell (World.block_lt_of_cell? w _ hw238_1)).trans hw238_1), ((HB.out.cell (World.block_lt_of_cell? w _ hw238_2)).trans hw238_2), ((HB.out.cell (World.block_lt_of_cell? w _ hw238_3)).trans hw238_3), ((HB.out.cell (World.block_lt_of_cell? w _ hw238_4)).trans hw238_4), ((HB.out.cell (World.block_lt_of_cell? w _ hw238_5)).trans hw238_5), ((HB.out.cell (World.block_lt_of_cell? w _ hw238_6)).trans hw238_6), ((HB.out.cell (World.block_lt_of_cell? w _ hw238_7)).trans hw238_7), ((HB.out.cell (World.block_lt_of_cell? w _ hw238_8)).trans hw238_8)⟩ (fun hHeld => ?_)
            clear hK K
            refine norm_ (a' := ?_) ?_ ?_
            rotate_left
            ·show Act.put _ (some 66) _ = _
             simp only [Act.put, pk1, pk2, pk3, i64_w, i32_w]
             rfl
            refine pure_ (i := 8) (N := some 67) (v := ?_) (a' := ?_) pkb9_9 rfl rfl (any_of HT_.out (by kernel_rfl)) (fun _ _ _ h => h) (Or.inl ⟨by rfl, ?_⟩) ?_ ?_; rotate_left; (intro w'; go_simp; with_reducible rfl); rotate_left; (simp only [Act.put, pk1, pk2, pk3, i64_w, i32_w]; rfl)
            refine done_ (done_of HT_.out (by kernel_rfl)) ?_
            try go_wp2
            have n0_ := Aside0.mk (pkD HB.out)
            clear HB
            have HB := n0_
            clear n0_
            have p240 : 0 ≤ (x5_1 : Int) := of_decide_eq_true (by first | (with_reducible assumption) | assumption)
            have q240 : x5_1 < (l0.length : Int) := of_decide_eq_true (by first | (with_reducible assumption) | assumption)
            obtain ⟨ad240, e240, hx240_0, hx240_1, hx240_2, hx240_3, hx240_4, hx240_5, hx240_6, hx240_7, hx240_8⟩ := at_T95 HR0.out x5_1 p240 q240
            have hw240_8 := hx240_8
            have hw240_7 := hx240_7
            have hw240_6 := hx240_6
            have hw240_5 := hx240_5
            have hw240_4 := hx240_4
            have hw240_3 := hx240_3
            have hw240_2 := hx240_2
            have hw240_1 := hx240_1
            have hw240_0 := hx240_0
            obtain rfl : ad233 = ad240 := (by injection e240)
            obtain ⟨hx240_0, hx240_1, hx240_2, hx240_3, hx240_4, hx240_5, hx240_6, hx240_7, hx240_8⟩ := pk_up9 HB.out hx240_0 hx240_1 hx240_2 hx240_3 hx240_4 hx240_5 hx240_6 hx240_7 hx240_8
            replace p240 := eq_true p240
            replace q240 := eq_true q240
            refine start_ (n := 9) (S := fun w' => w'.cell? (ad233.add ((x5_1).toNat * 9)) = some (.int .i64 ((rd_T95 l0 x5_1).f0.f0)) ∧ w'.cell? ⟨(ad233.add ((x5_1).toNat * 9)).block, (ad233.add ((x5_1).toNat * 9)).off + 1, none⟩ = some (.int .i64 ((rd_T95 l0 x5_1).f0.f1)) ∧ w'.cell? ⟨(ad233.add ((x5_1).toNat * 9)).block, (ad233.add ((x5_1).toNat * 9)).off + 2, none⟩ = some (.int .i64 ((rd_T95 l0 x5_1).f1)) ∧ w'.cell? ⟨(ad233.add ((x5_1).toNat * 9)).block, (ad233.add ((x5_1).toNat * 9)).off + 3, none⟩ = some (.int .i64 ((rd_T95 l0 x5_1).f2)) ∧ w'.cell? ⟨(ad233.add ((x5_1).toNat * 9)).block, (ad233.add ((x5_1).toNat * 9)).off + 4, none⟩ = some (.int .i64 ((rd_T95 l0 x5_1).f3)) ∧ w'.cell? ⟨(ad233.add ((x5_1).toNat * 9)).block, (ad233.add ((x5_1).toNat * 9)).off + 5, none⟩ = some (.string ((rd_T95 l0 x5_1).f4.f0)) ∧ w'.cell? ⟨(ad233.add ((x5_1).toNat * 9)).block, (ad233.add ((x5_1).toNat * 9)).off + 6, none⟩ = some (.string ((rd_T95 l0 x5_1).f4.f1)) ∧ w'.cell? ⟨(ad233.add ((x5_1).toNat * 9)).block, (ad233.add ((x5_1).toNat * 9)).off + 7, none⟩ = some (.string ((rd_T95 l0 x5_1).f5)) ∧ w'.cell? ⟨(ad233.add ((x5_1).toNat * 9)).block, (ad233.add ((x5_1).toNat * 9)).off + 8, none⟩ = some (.string ((rd_T95 l0 x5_1).f6))) (ds := []) pkb9_0 (by kernel_rfl) rfl rfl ⟨((HB.out.cell (World.block_lt_of_cell? w _ hw240_0)).trans hw240_0), ((HB.out.cell (World.block_lt_of_cell? w _ hw240_1)).trans hw240_1), ((HB.out.cell (World.block_lt_of_cell? w _ hw240_2)).trans hw240_2), ((HB.out.cell (World.block_lt_of_cell? w _ hw240_3)).trans hw240_3), ((HB.out.cell (World.block_lt_of_cell? w _ hw240_4)).trans hw240_4), ((HB.out.cell (World.block_lt_of_cell? w _ hw240_5)).trans hw240_5), ((HB.out.cell (World.block_lt_of_cell? w _ hw240_6)).trans hw240_6), ((HB.out.cell (World.block_lt_of_cell? w _ hw240_7)).trans hw240_7), ((HB.out.cell (World.block_lt_of_cell? w _ hw240_8)).trans hw240_8)⟩ (fun hHeld => ?_); refine with_tabW laws_heldDirChangeS.tab22 laws_heldDirChangeS.bits22 (fun HT_ HW_ => ?_)
            generalize w41.drew = w42 at HB hx240_0 hx240_1 hx240_2 hx240_3 hx240_4 hx240_5 hx240_6 hx240_7 hx240_8 hHeld ⊢
            refine pure_ (i := 0) (N := some 70) (v := ?_) (a' := ?_) pkb9_1 rfl rfl (any_of HT_.out (by kernel_rfl)) (fun _ _ _ h => h) (Or.inl ⟨by rfl, ?_⟩) ?_ ?_; rotate_left; (intro w'; go_simp; with_reducible rfl); rotate_left; (simp only [Act.put, pk1, pk2, pk3, i64_w, i32_w]; rfl)
            refine pure_ (i := 1) (N := some 71) (v := ?_) (a' := ?_) pkb9_2 rfl rfl (any_of HT_.out (by kernel_rfl)) (fun _ _ _ h => h) (Or.inl ⟨by rfl, ?_⟩) ?_ ?_; rotate_left; (intro w'; go_simp; with_reducible rfl); rotate_left; (simp only [Act.put, pk1, pk2, pk3, i64_w, i32_w]; rfl)
            refine pure_ (i := 2) (N := some 72) (v := ?_) (a' := ?_) pkb9_3 rfl rfl (any_of HT_.out (by kernel_rfl)) (fun _ _ _ h => h) (Or.inl ⟨by rfl, ?_⟩) ?_ ?_; rotate_left; (intro w'; go_simp; with_reducible rfl); rotate_left; (simp only [Act.put, pk1, pk2, pk3, i64_w, i32_w]; rfl)
            refine pure_ (i := 3) (N := some 73) (v := ?_) (a' := ?_) pkb9_4 rfl rfl (any_of HT_.out (by kernel_rfl)) (fun _ _ _ h => h) (Or.inl ⟨by rfl, ?_⟩) ?_ ?_; rotate_left; (intro w'; go_simp; with_reducible rfl); rotate_left; (simp only [Act.put, pk1, pk2, pk3, i64_w, i32_w]; rfl)
            refine pure_ (i := 4) (N := some 74) (v := ?_) (a' := ?_) pkb9_5 rfl rfl (any_of HT_.out (by kernel_rfl)) (fun _ _ _ h => h) (Or.inl ⟨by rfl, ?_⟩) ?_ ?_; rotate_left; (intro w'; go_simp; with_reducible rfl); rotate_left; (simp only [Act.put, pk1, pk2, pk3, i64_w, i32_w]; rfl)
            refine pure_ (i := 6) (N := some 76) (v := ?_) (a' := ?_) #[true, true, true, true, true, false, true, false, false] rfl rfl (any_of HT_.out (by kernel_rfl)) (fun _ _ _ h => h) (Or.inl ⟨by rfl, ?_⟩) ?_ ?_; rotate_left; (intro w'; go_simp; with_reducible rfl); rotate_left; (simp only [Act.put, pk1, pk2, pk3, i64_w, i32_w]; rfl)
            refine take_ (i := 5) (N := some 75) (v := ?_) (a' := ?_) pkb9_7 rfl rfl (take_ofW HT_.out HW_.out (by kernel_rfl)) (fun _ _ _ h => h) (Or.inl ⟨by rfl, ?_⟩) hHeld ?_ ?_; rotate_left; (rintro w' ⟨s0, s1, s2, s3, s4, s5, s6, s7, s8⟩; go_simp; with_reducible rfl); rotate_left; (simp only [Act.put, pk1, pk2, pk3, i64_w, i32_w]; rfl)
            refine one_ (i := 7) (N := some 77) pkb9_8 rfl rfl (one_of HT_.out (by kernel_rfl)) (by decide) (fun K hK => ?_)
            refine goes_ Try.func67 (by kernel_rfl) rfl #[.int .i64 (wrap64 ((wrap64 ((wrap64 ((wrap64 ((wrap64 ((wrap64 (x1_1 + 1)) + 1)) + 1)) + 1)) + 1)) + 1))] (by rfl) rfl rfl (by (try simp only [List.map_toArray, List.map_cons, List.map_nil]); first | done | rfl | (simp only [List.length_drop, List.length_take]; rfl)) ?_
            with_reducible refine (laws_markText.calls k1 (wrap64 ((wrap64 ((wrap64 ((wrap64 ((wrap64 ((wrap64 (x1_1 + 1)) + 1)) + 1)) + 1)) + 1)) + 1)) t241 _ A12.out).mono ?_
            rintro e w43 ⟨rfl, hb⟩
            refine ⟨_, rfl, ?_⟩
            have n0_ := Aside0.mk (below_step (by repeat (first | (with_reducible first | exact HB.out | apply pkA | apply pkN | apply pkD) | exact HB.out)) hb)
            clear HB
            have HB := n0_
            clear n0_
            (try clear hb)
            (try clear hb2)
            (try clear hk)
            (try clear hi)
            refine hK.out _ _ ⟨((HB.out.cell (World.block_lt_of_cell? w _ hw240_0)).trans hw240_0), ((HB.out.cell (World.block_lt_of_cell? w _ hw240_1)).trans hw240_1), ((HB.out.cell (World.block_lt_of_cell? w _ hw240_2)).trans hw240_2), ((HB.out.cell (World.block_lt_of_cell? w _ hw240_3)).trans hw240_3), ((HB.out.cell (World.block_lt_of_cell? w _ hw240_4)).trans hw240_4), ((HB.out.cell (World.block_lt_of_cell? w _ hw240_5)).trans hw240_5), ((HB.out.cell (World.block_lt_of_cell? w _ hw240_6)).trans hw240_6), ((HB.out.cell (World.block_lt_of_cell? w _ hw240_7)).trans hw240_7), ((HB.out.cell (World.block_lt_of_cell? w _ hw240_8)).trans hw240_8)⟩ (fun hHeld => ?_)
            clear hK K
            refine norm_ (a' := ?_) ?_ ?_
            rotate_left
            ·show Act.put _ (some 77) _ = _
             simp only [Act.put, pk1, pk2, pk3, i64_w, i32_w]
             rfl
            refine pure_ (i := 8) (N := some 78) (v := ?_) (a' := ?_) pkb9_9 rfl rfl (any_of HT_.out (by kernel_rfl)) (fun _ _ _ h => h) (Or.inl ⟨by rfl, ?_⟩) ?_ ?_; rotate_left; (intro w'; go_simp; with_reducible rfl); rotate_left; (simp only [Act.put, pk1, pk2, pk3, i64_w, i32_w]; rfl)
            refine done_ (done_of HT_.out (by kernel_rfl)) ?_
            try go_wp2
            go_ret
            exact ⟨by first | rfl | (simp [errW_none, errW_some] <;> rfl) | (simp [*, errW_none, errW_some] <;> rfl), by repeat (first | (with_reducible first | exact HB.out | apply pkA | apply pkN | apply pkD) | exact HB.out)⟩
          ·rw [if_neg c11] at H
           have c11b0 : (((rd_T95 l0 x5_1).f4.f0).toList == t239.toList) = false := beq_eq_false_iff_ne.mpr c11
           have c11b1 : (((rd_T95 l0 x5_1).f4.f0).toList != t239.toList) = true := bne_iff_ne.mpr c11
           obtain rfl := Option.some.inj H
           have p233 : 0 ≤ (x5_1 : Int) := of_decide_eq_true (by first | (with_reducible assumption) | assumption)
           have q233 : x5_1 < (l0.length : Int) := of_decide_eq_true (by first | (with_reducible assumption) | assumption)
           obtain ⟨ad233, e233, hx233_0, hx233_1, hx233_2, hx233_3, hx233_4, hx233_5, hx233_6, hx233_7, hx233_8⟩ := at_T95 HR0.out x5_1 p233 q233
           cases e233
           obtain ⟨hx233_0, hx233_1, hx233_2, hx233_3, hx233_4, hx233_5, hx233_6, hx233_7, hx233_8⟩ := pk_up9 HB.out hx233_0 hx233_1 hx233_2 hx233_3 hx233_4 hx233_5 hx233_6 hx233_7 hx233_8
           replace p233 := eq_true p233
           replace q233 := eq_true q233
           have p234 : 0 ≤ (x5_1 : Int) := of_decide_eq_true (by first | (with_reducible assumption) | assumption)
           have q234 : x5_1 < (l0.length : Int) := of_decide_eq_true (by first | (with_reducible assumption) | assumption)
           obtain ⟨ad234, e234, hx234_0, hx234_1, hx234_2, hx234_3, hx234_4, hx234_5, hx234_6, hx234_7, hx234_8⟩ := at_T95 HR0.out x5_1 p234 q234
           obtain rfl : ad233 = ad234 := (by injection e234)
           obtain ⟨hx234_0, hx234_1, hx234_2, hx234_3, hx234_4, hx234_5, hx234_6, hx234_7, hx234_8⟩ := pk_up9 HB.out hx234_0 hx234_1 hx234_2 hx234_3 hx234_4 hx234_5 hx234_6 hx234_7 hx234_8
           replace p234 := eq_true p234
           replace q234 := eq_true q234
           have p235 : 0 ≤ (x5_1 : Int) := of_decide_eq_true (by first | (with_reducible assumption) | assumption)
           have q235 : x5_1 < (l0.length : Int) := of_decide_eq_true (by first | (with_reducible assumption) | assumption)
           obtain ⟨ad235, e235, hx235_0, hx235_1, hx235_2, hx235_3, hx235_4, hx235_5, hx235_6, hx235_7, hx235_8⟩ := at_T95 HR0.out x5_1 p235 q235
           obtain rfl : ad233 = ad235 := (by injection e235)
           obtain ⟨hx235_0, hx235_1, hx235_2, hx235_3, hx235_4, hx235_5, hx235_6, hx235_7, hx235_8⟩ := pk_up9 HB.out hx235_0 hx235_1 hx235_2 hx235_3 hx235_4 hx235_5 hx235_6 hx235_7 hx235_8
           replace p235 := eq_true p235
           replace q235 := eq_true q235
           have p236 : 0 ≤ (x5_1 : Int) := of_decide_eq_true (by first | (with_reducible assumption) | assumption)
           have q236 : x5_1 < (l0.length : Int) := of_decide_eq_true (by first | (with_reducible assumption) | assumption)
           obtain ⟨ad236, e236, hx236_0, hx236_1, hx236_2, hx236_3, hx236_4, hx236_5, hx236_6, hx236_7, hx236_8⟩ := at_T95 HR0.out x5_1 p236 q236
           obtain rfl : ad233 = ad236 := (by injection e236)
           obtain ⟨hx236_0, hx236_1, hx236_2, hx236_3, hx236_4, hx236_5, hx236_6, hx236_7, hx236_8⟩ := pk_up9 HB.out hx236_0 hx236_1 hx236_2 hx236_3 hx236_4 hx236_5 hx236_6 hx236_7 hx236_8
           replace p236 := eq_true p236
           replace q236 := eq_true q236
           have p237 : 0 ≤ (x5_1 : Int) := of_decide_eq_true (by first | (with_reducible assumption) | assumption)
           have q237 : x5_1 < (l0.length : Int) := of_decide_eq_true (by first | (with_reducible assumption) | assumption)
           obtain ⟨ad237, e237, hx237_0, hx237_1, hx237_2, hx237_3, hx237_4, hx237_5, hx237_6, hx237_7, hx237_8⟩ := at_T95 HR0.out x5_1 p237 q237
           obtain rfl : ad233 = ad237 := (by injection e237)
           obtain ⟨hx237_0, hx237_1, hx237_2, hx237_3, hx237_4, hx237_5, hx237_6, hx237_7, hx237_8⟩ := pk_up9 HB.out hx237_0 hx237_1 hx237_2 hx237_3 hx237_4 hx237_5 hx237_6 hx237_7 hx237_8
           replace p237 := eq_true p237
           replace q237 := eq_true q237
           try go_wp2
           have n0_ := Aside0.mk (pkD HB.out)
           clear HB
           have HB := n0_
           clear n0_
           have p238 : 0 ≤ (x5_1 : Int) := of_decide_eq_true (by first | (with_reducible assumption) | assumption)
           have q238 : x5_1 < (l0.length : Int) := of_decide_eq_true (by first | (with_reducible assumption) | assumption)
           obtain ⟨ad238, e238, hx238_0, hx238_1, hx238_2, hx238_3, hx238_4, hx238_5, hx238_6, hx238_7, hx238_8⟩ := at_T95 HR0.out x5_1 p238 q238
           have hw238_8 := hx238_8
           have hw238_7 := hx238_7
           have hw238_6 := hx238_6
           have hw238_5 := hx238_5
           have hw238_4 := hx238_4
           have hw238_3 := hx238_3
           have hw238_2 := hx238_2
           have hw238_1 := hx238_1
           have hw238_0 := hx238_0
           obtain rfl : ad233 = ad238 := (by injection e238)
           obtain ⟨hx238_0, hx238_1, hx238_2, hx238_3, hx238_4, hx238_5, hx238_6, hx238_7, hx238_8⟩ := pk_up9 HB.out hx238_0 hx238_1 hx238_2 hx238_3 hx238_4 hx238_5 hx238_6 hx238_7 hx238_8
           replace p238 := eq_true p238
           replace q238 := eq_true q238
           refine start_ (n := 9) (S := fun w' => w'.cell? (ad233.add ((x5_1).toNat * 9)) = some (.int .i64 ((rd_T95 l0 x5_1).f0.f0)) ∧ w'.cell? ⟨(ad233.add ((x5_1).toNat * 9)).block, (ad233.add ((x5_1).toNat * 9)).off + 1, none⟩ = some (.int .i64 ((rd_T95 l0 x5_1).f0.f1)) ∧ w'.cell? ⟨(ad233.add ((x5_1).toNat * 9)).block, (ad233.add ((x5_1).toNat * 9)).off + 2, none⟩ = some (.int .i64 ((rd_T95 l0 x5_1).f1)) ∧ w'.cell? ⟨(ad233.add ((x5_1).toNat * 9)).block, (ad233.add ((x5_1).toNat * 9)).off + 3, none⟩ = some (.int .i64 ((rd_T95 l0 x5_1).f2)) ∧ w'.cell? ⟨(ad233.add ((x5_1).toNat * 9)).block, (ad233.add ((x5_1).toNat * 9)).off + 4, none⟩ = some (.int .i64 ((rd_T95 l0 x5_1).f3)) ∧ w'.cell? ⟨(ad233.add ((x5_1).toNat * 9)).block, (ad233.add ((x5_1).toNat * 9)).off + 5, none⟩ = some (.string ((rd_T95 l0 x5_1).f4.f0)) ∧ w'.cell? ⟨(ad233.add ((x5_1).toNat * 9)).block, (ad233.add ((x5_1).toNat * 9)).off + 6, none⟩ = some (.string ((rd_T95 l0 x5_1).f4.f1)) ∧ w'.cell? ⟨(ad233.add ((x5_1).toNat * 9)).block, (ad233.add ((x5_1).toNat * 9)).off + 7, none⟩ = some (.string ((rd_T95 l0 x5_1).f5)) ∧ w'.cell? ⟨(ad233.add ((x5_1).toNat * 9)).block, (ad233.add ((x5_1).toNat * 9)).off + 8, none⟩ = some (.string ((rd_T95 l0 x5_1).f6))) (ds := []) pkb9_0 (by kernel_rfl) rfl rfl ⟨((HB.out.cell (World.block_lt_of_cell? w _ hw238_0)).trans hw238_0), ((HB.out.cell (World.block_lt_of_cell? w _ hw238_1)).trans hw238_1), ((HB.out.cell (World.block_lt_of_cell? w _ hw238_2)).trans hw238_2), ((HB.out.cell (World.block_lt_of_cell? w _ hw238_3)).trans hw238_3), ((HB.out.cell (World.block_lt_of_cell? w _ hw238_4)).trans hw238_4), ((HB.out.cell (World.block_lt_of_cell? w _ hw238_5)).trans hw238_5), ((HB.out.cell (World.block_lt_of_cell? w _ hw238_6)).trans hw238_6), ((HB.out.cell (World.block_lt_of_cell? w _ hw238_7)).trans hw238_7), ((HB.out.cell (World.block_lt_of_cell? w _ hw238_8)).trans hw238_8)⟩ (fun hHeld => ?_); refine with_tabW laws_heldDirChangeS.tab19 laws_heldDirChangeS.bits19 (fun HT_ HW_ => ?_)
           generalize wr.drew = w44 at HB hx238_0 hx238_1 hx238_2 hx238_3 hx238_4 hx238_5 hx238_6 hx238_7 hx238_8 hHeld ⊢
           refine pure_ (i := 0) (N := some 59) (v := ?_) (a' := ?_) pkb9_1 rfl rfl (any_of HT_.out (by kernel_rfl)) (fun _ _ _ h => h) (Or.inl ⟨by rfl, ?_⟩) ?_ ?_; rotate_left; (intro w'; go_simp; with_reducible rfl); rotate_left; (simp only [Act.put, pk1, pk2, pk3, i64_w, i32_w]; rfl)
           refine pure_ (i := 1) (N := some 60) (v := ?_) (a' := ?_) pkb9_2 rfl rfl (any_of HT_.out (by kernel_rfl)) (fun _ _ _ h => h) (Or.inl ⟨by rfl, ?_⟩) ?_ ?_; rotate_left; (intro w'; go_simp; with_reducible rfl); rotate_left; (simp only [Act.put, pk1, pk2, pk3, i64_w, i32_w]; rfl)
           refine pure_ (i := 2) (N := some 61) (v := ?_) (a' := ?_) pkb9_3 rfl rfl (any_of HT_.out (by kernel_rfl)) (fun _ _ _ h => h) (Or.inl ⟨by rfl, ?_⟩) ?_ ?_; rotate_left; (intro w'; go_simp; with_reducible rfl); rotate_left; (simp only [Act.put, pk1, pk2, pk3, i64_w, i32_w]; rfl)
           refine pure_ (i := 3) (N := some 62) (v := ?_) (a' := ?_) pkb9_4 rfl rfl (any_of HT_.out (by kernel_rfl)) (fun _ _ _ h => h) (Or.inl ⟨by rfl, ?_⟩) ?_ ?_; rotate_left; (intro w'; go_simp; with_reducible rfl); rotate_left; (simp only [Act.put, pk1, pk2, pk3, i64_w, i32_w]; rfl)
           refine pure_ (i := 4) (N := some 63) (v := ?_) (a' := ?_) pkb9_5 rfl rfl (any_of HT_.out (by kernel_rfl)) (fun _ _ _ h => h) (Or.inl ⟨by rfl, ?_⟩) ?_ ?_; rotate_left; (intro w'; go_simp; with_reducible rfl); rotate_left; (simp only [Act.put, pk1, pk2, pk3, i64_w, i32_w]; rfl)
           refine pure_ (i := 6) (N := some 65) (v := ?_) (a' := ?_) #[true, true, true, true, true, false, true, false, false] rfl rfl (any_of HT_.out (by kernel_rfl)) (fun _ _ _ h => h) (Or.inl ⟨by rfl, ?_⟩) ?_ ?_; rotate_left; (intro w'; go_simp; with_reducible rfl); rotate_left; (simp only [Act.put, pk1, pk2, pk3, i64_w, i32_w]; rfl)
           refine take_ (i := 5) (N := some 64) (v := ?_) (a' := ?_) pkb9_7 rfl rfl (take_ofW HT_.out HW_.out (by kernel_rfl)) (fun _ _ _ h => h) (Or.inl ⟨by rfl, ?_⟩) hHeld ?_ ?_; rotate_left; (rintro w' ⟨s0, s1, s2, s3, s4, s5, s6, s7, s8⟩; go_simp; with_reducible rfl); rotate_left; (simp only [Act.put, pk1, pk2, pk3, i64_w, i32_w]; rfl)
           refine one_ (i := 7) (N := some 66) pkb9_8 rfl rfl (one_of HT_.out (by kernel_rfl)) (by decide) (fun K hK => ?_)
           refine goes_ Try.func67 (by kernel_rfl) rfl #[.int .i64 (wrap64 ((wrap64 ((wrap64 ((wrap64 ((wrap64 (x1_1 + 1)) + 1)) + 1)) + 1)) + 1))] (by rfl) rfl rfl (by (try simp only [List.map_toArray, List.map_cons, List.map_nil]); first | done | rfl | (simp only [List.length_drop, List.length_take]; rfl)) ?_
           with_reducible refine (laws_markText.calls k1 (wrap64 ((wrap64 ((wrap64 ((wrap64 ((wrap64 (x1_1 + 1)) + 1)) + 1)) + 1)) + 1)) t239 _ A10.out).mono ?_
           rintro e w45 ⟨rfl, hb⟩
           refine ⟨_, rfl, ?_⟩
           have n0_ := Aside0.mk (below_step (by repeat (first | (with_reducible first | exact HB.out | apply pkA | apply pkN | apply pkD) | exact HB.out)) hb)
           clear HB
           have HB := n0_
           clear n0_
           (try clear hb)
           (try clear hb2)
           (try clear hk)
           (try clear hi)
           refine hK.out _ _ ⟨((HB.out.cell (World.block_lt_of_cell? w _ hw238_0)).trans hw238_0), ((HB.out.cell (World.block_lt_of_cell? w _ hw238_1)).trans hw238_1), ((HB.out.cell (World.block_lt_of_cell? w _ hw238_2)).trans hw238_2), ((HB.out.cell (World.block_lt_of_cell? w _ hw238_3)).trans hw238_3), ((HB.out.cell (World.block_lt_of_cell? w _ hw238_4)).trans hw238_4), ((HB.out.cell (World.block_lt_of_cell? w _ hw238_5)).trans hw238_5), ((HB.out.cell (World.block_lt_of_cell? w _ hw238_6)).trans hw238_6), ((HB.out.cell (World.block_lt_of_cell? w _ hw238_7)).trans hw238_7), ((HB.out.cell (World.block_lt_of_cell? w _ hw238_8)).trans hw238_8)⟩ (fun hHeld => ?_)
           clear hK K
           refine norm_ (a' := ?_) ?_ ?_
           rotate_left
           ·show Act.put _ (some 66) _ = _
            simp only [Act.put, pk1, pk2, pk3, i64_w, i32_w]
            rfl
           refine pure_ (i := 8) (N := some 67) (v := ?_) (a' := ?_) pkb9_9 rfl rfl (any_of HT_.out (by kernel_rfl)) (fun _ _ _ h => h) (Or.inl ⟨by rfl, ?_⟩) ?_ ?_; rotate_left; (intro w'; go_simp; with_reducible rfl); rotate_left; (simp only [Act.put, pk1, pk2, pk3, i64_w, i32_w]; rfl)
           refine done_ (done_of HT_.out (by kernel_rfl)) ?_
           try go_wp2
           go_ret
           exact ⟨by first | rfl | (simp [errW_none, errW_some] <;> rfl) | (simp [*, errW_none, errW_some] <;> rfl), by repeat (first | (with_reducible first | exact HB.out | apply pkA | apply pkN | apply pkD) | exact HB.out)⟩
         ·rw [if_neg c9] at H
          have c9b0 : (((rd_T95 l0 x5_1).f3) == (wrap64 ((wrap64 ((wrap64 ((wrap64 (x1_1 + 1)) + 1)) + 1)) + 1))) = false := beq_eq_false_iff_ne.mpr c9
          have c9b1 : (((rd_T95 l0 x5_1).f3) != (wrap64 ((wrap64 ((wrap64 ((wrap64 (x1_1 + 1)) + 1)) + 1)) + 1))) = true := bne_iff_ne.mpr c9
          obtain rfl := Option.some.inj H
          have p233 : 0 ≤ (x5_1 : Int) := of_decide_eq_true (by first | (with_reducible assumption) | assumption)
          have q233 : x5_1 < (l0.length : Int) := of_decide_eq_true (by first | (with_reducible assumption) | assumption)
          obtain ⟨ad233, e233, hx233_0, hx233_1, hx233_2, hx233_3, hx233_4, hx233_5, hx233_6, hx233_7, hx233_8⟩ := at_T95 HR0.out x5_1 p233 q233
          cases e233
          obtain ⟨hx233_0, hx233_1, hx233_2, hx233_3, hx233_4, hx233_5, hx233_6, hx233_7, hx233_8⟩ := pk_up9 HB.out hx233_0 hx233_1 hx233_2 hx233_3 hx233_4 hx233_5 hx233_6 hx233_7 hx233_8
          replace p233 := eq_true p233
          replace q233 := eq_true q233
          have p234 : 0 ≤ (x5_1 : Int) := of_decide_eq_true (by first | (with_reducible assumption) | assumption)
          have q234 : x5_1 < (l0.length : Int) := of_decide_eq_true (by first | (with_reducible assumption) | assumption)
          obtain ⟨ad234, e234, hx234_0, hx234_1, hx234_2, hx234_3, hx234_4, hx234_5, hx234_6, hx234_7, hx234_8⟩ := at_T95 HR0.out x5_1 p234 q234
          obtain rfl : ad233 = ad234 := (by injection e234)
          obtain ⟨hx234_0, hx234_1, hx234_2, hx234_3, hx234_4, hx234_5, hx234_6, hx234_7, hx234_8⟩ := pk_up9 HB.out hx234_0 hx234_1 hx234_2 hx234_3 hx234_4 hx234_5 hx234_6 hx234_7 hx234_8
          replace p234 := eq_true p234
          replace q234 := eq_true q234
          have p235 : 0 ≤ (x5_1 : Int) := of_decide_eq_true (by first | (with_reducible assumption) | assumption)
          have q235 : x5_1 < (l0.length : Int) := of_decide_eq_true (by first | (with_reducible assumption) | assumption)
          obtain ⟨ad235, e235, hx235_0, hx235_1, hx235_2, hx235_3, hx235_4, hx235_5, hx235_6, hx235_7, hx235_8⟩ := at_T95 HR0.out x5_1 p235 q235
          obtain rfl : ad233 = ad235 := (by injection e235)
          obtain ⟨hx235_0, hx235_1, hx235_2, hx235_3, hx235_4, hx235_5, hx235_6, hx235_7, hx235_8⟩ := pk_up9 HB.out hx235_0 hx235_1 hx235_2 hx235_3 hx235_4 hx235_5 hx235_6 hx235_7 hx235_8
          replace p235 := eq_true p235
          replace q235 := eq_true q235
          have p236 : 0 ≤ (x5_1 : Int) := of_decide_eq_true (by first | (with_reducible assumption) | assumption)
          have q236 : x5_1 < (l0.length : Int) := of_decide_eq_true (by first | (with_reducible assumption) | assumption)
          obtain ⟨ad236, e236, hx236_0, hx236_1, hx236_2, hx236_3, hx236_4, hx236_5, hx236_6, hx236_7, hx236_8⟩ := at_T95 HR0.out x5_1 p236 q236
          obtain rfl : ad233 = ad236 := (by injection e236)
          obtain ⟨hx236_0, hx236_1, hx236_2, hx236_3, hx236_4, hx236_5, hx236_6, hx236_7, hx236_8⟩ := pk_up9 HB.out hx236_0 hx236_1 hx236_2 hx236_3 hx236_4 hx236_5 hx236_6 hx236_7 hx236_8
          replace p236 := eq_true p236
          replace q236 := eq_true q236
          have p237 : 0 ≤ (x5_1 : Int) := of_decide_eq_true (by first | (with_reducible assumption) | assumption)
          have q237 : x5_1 < (l0.length : Int) := of_decide_eq_true (by first | (with_reducible assumption) | assumption)
          obtain ⟨ad237, e237, hx237_0, hx237_1, hx237_2, hx237_3, hx237_4, hx237_5, hx237_6, hx237_7, hx237_8⟩ := at_T95 HR0.out x5_1 p237 q237
          obtain rfl : ad233 = ad237 := (by injection e237)
          obtain ⟨hx237_0, hx237_1, hx237_2, hx237_3, hx237_4, hx237_5, hx237_6, hx237_7, hx237_8⟩ := pk_up9 HB.out hx237_0 hx237_1 hx237_2 hx237_3 hx237_4 hx237_5 hx237_6 hx237_7 hx237_8
          replace p237 := eq_true p237
          replace q237 := eq_true q237
          go_wp2
          go_ret
          exact ⟨by first | rfl | (simp [errW_none, errW_some] <;> rfl) | (simp [*, errW_none, errW_some] <;> rfl), by repeat (first | (with_reducible first | exact HB.out | apply pkA | apply pkN | apply pkD) | exact HB.out)⟩
        ·rw [if_neg c8] at H
         have c8b0 : (((rd_T95 l0 x5_1).f2) == (wrap64 ((wrap64 ((wrap64 (x1_1 + 1)) + 1)) + 1))) = false := beq_eq_false_iff_ne.mpr c8
         have c8b1 : (((rd_T95 l0 x5_1).f2) != (wrap64 ((wrap64 ((wrap64 (x1_1 + 1)) + 1)) + 1))) = true := bne_iff_ne.mpr c8
         obtain rfl := Option.some.inj H
         have p233 : 0 ≤ (x5_1 : Int) := of_decide_eq_true (by first | (with_reducible assumption) | assumption)
         have q233 : x5_1 < (l0.length : Int) := of_decide_eq_true (by first | (with_reducible assumption) | assumption)
         obtain ⟨ad233, e233, hx233_0, hx233_1, hx233_2, hx233_3, hx233_4, hx233_5, hx233_6, hx233_7, hx233_8⟩ := at_T95 HR0.out x5_1 p233 q233
         cases e233
         obtain ⟨hx233_0, hx233_1, hx233_2, hx233_3, hx233_4, hx233_5, hx233_6, hx233_7, hx233_8⟩ := pk_up9 HB.out hx233_0 hx233_1 hx233_2 hx233_3 hx233_4 hx233_5 hx233_6 hx233_7 hx233_8
         replace p233 := eq_true p233
         replace q233 := eq_true q233
         have p234 : 0 ≤ (x5_1 : Int) := of_decide_eq_true (by first | (with_reducible assumption) | assumption)
         have q234 : x5_1 < (l0.length : Int) := of_decide_eq_true (by first | (with_reducible assumption) | assumption)
         obtain ⟨ad234, e234, hx234_0, hx234_1, hx234_2, hx234_3, hx234_4, hx234_5, hx234_6, hx234_7, hx234_8⟩ := at_T95 HR0.out x5_1 p234 q234
         obtain rfl : ad233 = ad234 := (by injection e234)
         obtain ⟨hx234_0, hx234_1, hx234_2, hx234_3, hx234_4, hx234_5, hx234_6, hx234_7, hx234_8⟩ := pk_up9 HB.out hx234_0 hx234_1 hx234_2 hx234_3 hx234_4 hx234_5 hx234_6 hx234_7 hx234_8
         replace p234 := eq_true p234
         replace q234 := eq_true q234
         have p235 : 0 ≤ (x5_1 : Int) := of_decide_eq_true (by first | (with_reducible assumption) | assumption)
         have q235 : x5_1 < (l0.length : Int) := of_decide_eq_true (by first | (with_reducible assumption) | assumption)
         obtain ⟨ad235, e235, hx235_0, hx235_1, hx235_2, hx235_3, hx235_4, hx235_5, hx235_6, hx235_7, hx235_8⟩ := at_T95 HR0.out x5_1 p235 q235
         obtain rfl : ad233 = ad235 := (by injection e235)
         obtain ⟨hx235_0, hx235_1, hx235_2, hx235_3, hx235_4, hx235_5, hx235_6, hx235_7, hx235_8⟩ := pk_up9 HB.out hx235_0 hx235_1 hx235_2 hx235_3 hx235_4 hx235_5 hx235_6 hx235_7 hx235_8
         replace p235 := eq_true p235
         replace q235 := eq_true q235
         have p236 : 0 ≤ (x5_1 : Int) := of_decide_eq_true (by first | (with_reducible assumption) | assumption)
         have q236 : x5_1 < (l0.length : Int) := of_decide_eq_true (by first | (with_reducible assumption) | assumption)
         obtain ⟨ad236, e236, hx236_0, hx236_1, hx236_2, hx236_3, hx236_4, hx236_5, hx236_6, hx236_7, hx236_8⟩ := at_T95 HR0.out x5_1 p236 q236
         obtain rfl : ad233 = ad236 := (by injection e236)
         obtain ⟨hx236_0, hx236_1, hx236_2, hx236_3, hx236_4, hx236_5, hx236_6, hx236_7, hx236_8⟩ := pk_up9 HB.out hx236_0 hx236_1 hx236_2 hx236_3 hx236_4 hx236_5 hx236_6 hx236_7 hx236_8
         replace p236 := eq_true p236
         replace q236 := eq_true q236
         go_wp2
         go_ret
         exact ⟨by first | rfl | (simp [errW_none, errW_some] <;> rfl) | (simp [*, errW_none, errW_some] <;> rfl), by repeat (first | (with_reducible first | exact HB.out | apply pkA | apply pkN | apply pkD) | exact HB.out)⟩
       ·rw [if_neg c7] at H
        have c7b0 : (((rd_T95 l0 x5_1).f1) == (wrap64 ((wrap64 (x1_1 + 1)) + 1))) = false := beq_eq_false_iff_ne.mpr c7
        have c7b1 : (((rd_T95 l0 x5_1).f1) != (wrap64 ((wrap64 (x1_1 + 1)) + 1))) = true := bne_iff_ne.mpr c7
        obtain rfl := Option.some.inj H
        have p233 : 0 ≤ (x5_1 : Int) := of_decide_eq_true (by first | (with_reducible assumption) | assumption)
        have q233 : x5_1 < (l0.length : Int) := of_decide_eq_true (by first | (with_reducible assumption) | assumption)
        obtain ⟨ad233, e233, hx233_0, hx233_1, hx233_2, hx233_3, hx233_4, hx233_5, hx233_6, hx233_7, hx233_8⟩ := at_T95 HR0.out x5_1 p233 q233
        cases e233
        obtain ⟨hx233_0, hx233_1, hx233_2, hx233_3, hx233_4, hx233_5, hx233_6, hx233_7, hx233_8⟩ := pk_up9 HB.out hx233_0 hx233_1 hx233_2 hx233_3 hx233_4 hx233_5 hx233_6 hx233_7 hx233_8
        replace p233 := eq_true p233
        replace q233 := eq_true q233
        have p234 : 0 ≤ (x5_1 : Int) := of_decide_eq_true (by first | (with_reducible assumption) | assumption)
        have q234 : x5_1 < (l0.length : Int) := of_decide_eq_true (by first | (with_reducible assumption) | assumption)
        obtain ⟨ad234, e234, hx234_0, hx234_1, hx234_2, hx234_3, hx234_4, hx234_5, hx234_6, hx234_7, hx234_8⟩ := at_T95 HR0.out x5_1 p234 q234
        obtain rfl : ad233 = ad234 := (by injection e234)
        obtain ⟨hx234_0, hx234_1, hx234_2, hx234_3, hx234_4, hx234_5, hx234_6, hx234_7, hx234_8⟩ := pk_up9 HB.out hx234_0 hx234_1 hx234_2 hx234_3 hx234_4 hx234_5 hx234_6 hx234_7 hx234_8
        replace p234 := eq_true p234
        replace q234 := eq_true q234
        have p235 : 0 ≤ (x5_1 : Int) := of_decide_eq_true (by first | (with_reducible assumption) | assumption)
        have q235 : x5_1 < (l0.length : Int) := of_decide_eq_true (by first | (with_reducible assumption) | assumption)
        obtain ⟨ad235, e235, hx235_0, hx235_1, hx235_2, hx235_3, hx235_4, hx235_5, hx235_6, hx235_7, hx235_8⟩ := at_T95 HR0.out x5_1 p235 q235
        obtain rfl : ad233 = ad235 := (by injection e235)
        obtain ⟨hx235_0, hx235_1, hx235_2, hx235_3, hx235_4, hx235_5, hx235_6, hx235_7, hx235_8⟩ := pk_up9 HB.out hx235_0 hx235_1 hx235_2 hx235_3 hx235_4 hx235_5 hx235_6 hx235_7 hx235_8
        replace p235 := eq_true p235
        replace q235 := eq_true q235
        go_wp2
        go_ret
        exact ⟨by first | rfl | (simp [errW_none, errW_some] <;> rfl) | (simp [*, errW_none, errW_some] <;> rfl), by repeat (first | (with_reducible first | exact HB.out | apply pkA | apply pkN | apply pkD) | exact HB.out)⟩
      ·rw [if_neg c6] at H
       have c6b0 : (((rd_T95 l0 x5_1).f0.f1) == (wrap64 (x1_1 + 1))) = false := beq_eq_false_iff_ne.mpr c6
       have c6b1 : (((rd_T95 l0 x5_1).f0.f1) != (wrap64 (x1_1 + 1))) = true := bne_iff_ne.mpr c6
       obtain rfl := Option.some.inj H
       have p233 : 0 ≤ (x5_1 : Int) := of_decide_eq_true (by first | (with_reducible assumption) | assumption)
       have q233 : x5_1 < (l0.length : Int) := of_decide_eq_true (by first | (with_reducible assumption) | assumption)
       obtain ⟨ad233, e233, hx233_0, hx233_1, hx233_2, hx233_3, hx233_4, hx233_5, hx233_6, hx233_7, hx233_8⟩ := at_T95 HR0.out x5_1 p233 q233
       cases e233
       obtain ⟨hx233_0, hx233_1, hx233_2, hx233_3, hx233_4, hx233_5, hx233_6, hx233_7, hx233_8⟩ := pk_up9 HB.out hx233_0 hx233_1 hx233_2 hx233_3 hx233_4 hx233_5 hx233_6 hx233_7 hx233_8
       replace p233 := eq_true p233
       replace q233 := eq_true q233
       have p234 : 0 ≤ (x5_1 : Int) := of_decide_eq_true (by first | (with_reducible assumption) | assumption)
       have q234 : x5_1 < (l0.length : Int) := of_decide_eq_true (by first | (with_reducible assumption) | assumption)
       obtain ⟨ad234, e234, hx234_0, hx234_1, hx234_2, hx234_3, hx234_4, hx234_5, hx234_6, hx234_7, hx234_8⟩ := at_T95 HR0.out x5_1 p234 q234
       obtain rfl : ad233 = ad234 := (by injection e234)
       obtain ⟨hx234_0, hx234_1, hx234_2, hx234_3, hx234_4, hx234_5, hx234_6, hx234_7, hx234_8⟩ := pk_up9 HB.out hx234_0 hx234_1 hx234_2 hx234_3 hx234_4 hx234_5 hx234_6 hx234_7 hx234_8
       replace p234 := eq_true p234
       replace q234 := eq_true q234
       go_wp2
       go_ret
       exact ⟨by first | rfl | (simp [errW_none, errW_some] <;> rfl) | (simp [*, errW_none, errW_some] <;> rfl), by repeat (first | (with_reducible first | exact HB.out | apply pkA | apply pkN | apply pkD) | exact HB.out)⟩
     ·rw [if_neg c5] at H
      have c5b0 : (((rd_T95 l0 x5_1).f0.f0) == x1_1) = false := beq_eq_false_iff_ne.mpr c5
      have c5b1 : (((rd_T95 l0 x5_1).f0.f0) != x1_1) = true := bne_iff_ne.mpr c5
      obtain rfl := Option.some.inj H
      have p233 : 0 ≤ (x5_1 : Int) := of_decide_eq_true (by first | (with_reducible assumption) | assumption)
      have q233 : x5_1 < (l0.length : Int) := of_decide_eq_true (by first | (with_reducible assumption) | assumption)
      obtain ⟨ad233, e233, hx233_0, hx233_1, hx233_2, hx233_3, hx233_4, hx233_5, hx233_6, hx233_7, hx233_8⟩ := at_T95 HR0.out x5_1 p233 q233
      cases e233
      obtain ⟨hx233_0, hx233_1, hx233_2, hx233_3, hx233_4, hx233_5, hx233_6, hx233_7, hx233_8⟩ := pk_up9 HB.out hx233_0 hx233_1 hx233_2 hx233_3 hx233_4 hx233_5 hx233_6 hx233_7 hx233_8
      replace p233 := eq_true p233
      replace q233 := eq_true q233
      go_wp2
      go_ret
      exact ⟨by first | rfl | (simp [errW_none, errW_some] <;> rfl) | (simp [*, errW_none, errW_some] <;> rfl), by repeat (first | (with_reducible first | exact HB.out | apply pkA | apply pkN | apply pkD) | exact HB.out)⟩
    ·rw [if_neg c4] at H
     exact absurd H (by simp)
   ·rw [if_neg c3] at H
    have c3b0 : decide (x5_1 < (l0.length : Int)) = false := decide_eq_false c3
    clear c3
    obtain rfl := Option.some.inj H
    go_wp2
    go_ret
    exact ⟨by first | rfl | (simp [errW_none, errW_some] <;> rfl) | (simp [*, errW_none, errW_some] <;> rfl), by repeat (first | (with_reducible first | exact HB.out | apply pkA | apply pkN | apply pkD) | exact HB.out)⟩

end Go.Proofs.Ytcgiegkcmofhhab.PFnExactMissing
