-- Written for this claim by a program of this session, which goes by the kit's print and takes contracts proved by hand.
import Derived.Test.YtcgiegkcmofhhabPFnExactMissingx0
import Derived.Test.YtcgiegkcmofhhabPFnExactMissingx2
namespace Go.Proofs.Ytcgiegkcmofhhab.PFnExactMissing
open Go.RowKit Go.Proofs.YtcgiegkcmofhhabW.PrintWords Go.Proofs.YtcgiegkcmofhhabW.PrintLast Go.Proofs.YtcgiegkcmofhhabW.PrintMore
attribute [local go_sem] max2_int min2_int max_two min_two max_three min_three max_four min_four   -- for this text's walks alone
set_option linter.unusedVariables false
set_option linter.unusedSimpArgs false

/-! ### laws_eqDirChangeS: function 14 -/
def laws_eqDirChangeS.l0 : Nat → List (S95) → List (S95) → Int → Option (Bool)
 | 0, _, _, _ => none
 | k + 1, x0, x1, x5 => if x5 < (x0.length : Int) then (if 0 ≤ x5 then (if x5 < (x1.length : Int) then ((laws_eqDirChange.f ((rd_T95 x0 x5).f0.f0) ((rd_T95 x0 x5).f0.f1) ((rd_T95 x0 x5).f1) ((rd_T95 x0 x5).f2) ((rd_T95 x0 x5).f3) ((rd_T95 x0 x5).f4.f0) ((rd_T95 x0 x5).f4.f1) ((rd_T95 x0 x5).f5) ((rd_T95 x0 x5).f6) ((rd_T95 x1 x5).f0.f0) ((rd_T95 x1 x5).f0.f1) ((rd_T95 x1 x5).f1) ((rd_T95 x1 x5).f2) ((rd_T95 x1 x5).f3) ((rd_T95 x1 x5).f4.f0) ((rd_T95 x1 x5).f4.f1) ((rd_T95 x1 x5).f5) ((rd_T95 x1 x5).f6)).bind fun t143 => (if t143 = true then (laws_eqDirChangeS.l0 k x0 x1 (wrap64 (x5 + 1))) else (some false))) else (none)) else (none)) else (some true)
def laws_eqDirChangeS.f (k : Nat) (l0 : List (S95)) (l1 : List (S95)) : Option (Bool) := if (l0.length : Int) = (l1.length : Int) then (laws_eqDirChangeS.l0 k l0 l1 0) else (some false)
theorem laws_eqDirChangeS.mono_l : ∀ k, (∀ y0 y1 y2, LeO (laws_eqDirChangeS.l0 k y0 y1 y2) (laws_eqDirChangeS.l0 (k + 1) y0 y1 y2))
 | 0 => fun _ _ _ r h => by simp [laws_eqDirChangeS.l0] at h
 | k + 1 => by
  have ih0 := laws_eqDirChangeS.mono_l k
  ·intro y0 y1 y2
   unfold laws_eqDirChangeS.l0
   repeat' first
   | (with_reducible exact ih0 _ _ _)
   | (with_reducible exact LeO.refl _)
   | (with_reducible exact LeO.none _)
   | (with_reducible refine LeO.ite ?_ ?_)
   | (with_reducible refine LeO.bind ?_ (fun _ => ?_))
   | exact ih0 _ _ _
   | exact LeO.none _
   | refine LeO.ite ?_ ?_
   | refine LeO.bind ?_ (fun _ => ?_)
theorem laws_eqDirChangeS.mono : ∀ a0 a1 k, LeO (laws_eqDirChangeS.f k a0 a1) (laws_eqDirChangeS.f (k + 1) a0 a1) := by
 intro a0 a1 k
 have ih0 := laws_eqDirChangeS.mono_l k
 unfold laws_eqDirChangeS.f
 repeat' first
   | (with_reducible exact ih0 _ _ _)
   | (with_reducible exact LeO.refl _)
   | (with_reducible exact LeO.none _)
   | (with_reducible refine LeO.ite ?_ ?_)
   | (with_reducible refine LeO.bind ?_ (fun _ => ?_))
   | exact ih0 _ _ _
   | exact LeO.none _
   | refine LeO.ite ?_ ?_
   | refine LeO.bind ?_ (fun _ => ?_)
def laws_eqDirChangeS.T6 : Bool × List (List Nat × List Nat) := (true, [([], []), ([], []), ([0, 1], [0, 1]), ([2], [2]), ([], []), ([], []), ([4, 5], [4, 5]), ([6], [6]), ([3, 7], [3, 7]), ([8], [8])])
def laws_eqDirChangeS.B6 : List Nat := [0, 0, 3, 7, 0, 0, 48, 112, 255, 511]
theorem laws_eqDirChangeS.tab6 : rtab .any (opsOf Try.f14 6) = laws_eqDirChangeS.T6 := by kernel_rfl
theorem laws_eqDirChangeS.bits6 : waitsOk laws_eqDirChangeS.T6.2 laws_eqDirChangeS.B6 = true := by kernel_rfl
set_option maxHeartbeats 8000000 in
set_option maxRecDepth 100000 in
theorem laws_eqDirChangeS.calls (k : Nat) (A0 : Option Addr) (c0 : Nat) (l0 : List (S95)) (A1 : Option Addr) (c1 : Nat) (l1 : List (S95)) (r : Bool) (w : World) (hr0 : Kd.C k95 w A0 l0.length l0) (hc0 : l0.length ≤ c0) (hr1 : Kd.C k95 w A1 l1.length l1) (hc1 : l1.length ≤ c1) (h : laws_eqDirChangeS.f k l0 l1 = some r) :
  Calls Try.prog 14 #[.slice A0 l0.length c0, .slice A1 l1.length c1] w fun e w' => e = .returned (.bool r) ∧ Below w.heap.size w w' := by
 have hu95 := Try.underlying95
 have HR0 := Aside0.mk hr0
 have HC0 := Aside0.mk hc0
 clear hr0 hc0
 have HR1 := Aside0.mk hr1
 have HC1 := Aside0.mk hc1
 clear hr1 hc1
 have HB := Aside0.mk (Below.refl w.heap.size w)
 have H : (if (l0.length : Int) = (l1.length : Int) then (laws_eqDirChangeS.l0 k l0 l1 0) else (some false)) = some r := h
 clear h
 by_cases c3 : (l0.length : Int) = (l1.length : Int)
 ·rw [if_pos c3] at H
  have c3b0 : ((l0.length : Int) == (l1.length : Int)) = true := beq_iff_eq.mpr c3
  have c3b1 : ((l0.length : Int) != (l1.length : Int)) = false := bne_eq_false_iff_eq.mpr c3
  have c3b2 : (l0.length == l1.length) = true := by first | simpa using c3 | (simp at c3 ⊢; omega)
  clear c3
  have H' := Aside0.mk H
  clear H
  go_enter Try.func14, Try.ntmps14
  go_wp2
  go_loopg [5] k (fun kq v5 w' => ∃ (x5_1 : Int), v5 = .int .i64 x5_1 ∧ Aside0 (laws_eqDirChangeS.l0 kq l0 l1 x5_1 = some r) ∧ Aside0 (kq ≤ k) ∧ Aside0 (Below w.heap.size w w'))
  case atStart => exact ⟨(0), (by first | rfl | (simp; done) | (simp [pw_ne_nil, pw_eq_nil]; done) | (simp [*]; done)), H', ⟨Nat.le_refl _⟩, ⟨by repeat (first | (with_reducible first | exact HB.out | apply pkA | apply pkN | apply pkD) | exact HB.out)⟩⟩
  case round =>
   clear H'
   try clear c1; try clear p2; try clear c3; try clear c3b0; try clear c3b1; try clear c3b2
   obtain ⟨x5_1, rfl, HA, HK1, HB⟩ := hrel
   cases gk with
   | zero => exact absurd HA.out (by simp [laws_eqDirChangeS.l0])
   | succ k1 =>
    have H := HA.out
    clear HA
    simp only [laws_eqDirChangeS.l0] at H
    by_cases c4 : x5_1 < (l0.length : Int)
    ·rw [if_pos c4] at H
     have c4b0 : decide (x5_1 < (l0.length : Int)) = true := decide_eq_true c4
     clear c4
     by_cases c5 : 0 ≤ x5_1
     ·rw [if_pos c5] at H
      have c5b0 : decide (0 ≤ x5_1) = true := decide_eq_true c5
      clear c5
      by_cases c6 : x5_1 < (l1.length : Int)
      ·rw [if_pos c6] at H
       have c6b0 : decide (x5_1 < (l1.length : Int)) = true := decide_eq_true c6
       clear c6
       replace H := Option.bind_eq_some_iff.mp H
       obtain ⟨t143, A70, H⟩ := H
       try dsimp only at H
       have A7 := Aside0.mk A70
       clear A70
       by_cases c8 : t143 = true
       ·subst c8
        rw [if_pos rfl] at H
        have H' := Aside0.mk H
        clear H
        try go_wp2
        have n0_ := Aside0.mk (pkD HB.out)
        clear HB
        have HB := n0_
        clear n0_
        have p141 : 0 ≤ (x5_1 : Int) := of_decide_eq_true (by first | (with_reducible assumption) | assumption)
        have q141 : x5_1 < (l0.length : Int) := of_decide_eq_true (by first | (with_reducible assumption) | assumption)
        obtain ⟨ad141, e141, hx141_0, hx141_1, hx141_2, hx141_3, hx141_4, hx141_5, hx141_6, hx141_7, hx141_8⟩ := at_T95 HR0.out x5_1 p141 q141
        have hw141_8 := hx141_8
        have hw141_7 := hx141_7
        have hw141_6 := hx141_6
        have hw141_5 := hx141_5
        have hw141_4 := hx141_4
        have hw141_3 := hx141_3
        have hw141_2 := hx141_2
        have hw141_1 := hx141_1
        have hw141_0 := hx141_0
        cases e141
        obtain ⟨hx141_0, hx141_1, hx141_2, hx141_3, hx141_4, hx141_5, hx141_6, hx141_7, hx141_8⟩ := pk_up9 HB.out hx141_0 hx141_1 hx141_2 hx141_3 hx141_4 hx141_5 hx141_6 hx141_7 hx141_8
        replace p141 := eq_true p141
        replace q141 := eq_true q141
        have p142 : 0 ≤ (x5_1 : Int) := of_decide_eq_true (by first | (with_reducible assumption) | assumption)
        have q142 : x5_1 < (l1.length : Int) := of_decide_eq_true (by first | (with_reducible assumption) | assumption)
        obtain ⟨ad142, e142, hx142_0, hx142_1, hx142_2, hx142_3, hx142_4, hx142_5, hx142_6, hx142_7, hx142_8⟩ := at_T95 HR1.out x5_1 p142 q142
        have hw142_8 := hx142_8
        have hw142_7 := hx142_7
        have hw142_6 := hx142_6
        have hw142_5 := hx142_5
        have hw142_4 := hx142_4
        have hw142_3 := hx142_3
        have hw142_2 := hx142_2
        have hw142_1 := hx142_1
        have hw142_0 := hx142_0
        cases e142
        obtain ⟨hx142_0, hx142_1, hx142_2, hx142_3, hx142_4, hx142_5, hx142_6, hx142_7, hx142_8⟩ := pk_up9 HB.out hx142_0 hx142_1 hx142_2 hx142_3 hx142_4 hx142_5 hx142_6 hx142_7 hx142_8
        replace p142 := eq_true p142
        replace q142 := eq_true q142
        refine start_ (n := 10) (S := fun w' => w'.cell? (ad141.add ((x5_1).toNat * 9)) = some (.int .i64 ((rd_T95 l0 x5_1).f0.f0)) ∧ w'.cell? ⟨(ad141.add ((x5_1).toNat * 9)).block, (ad141.add ((x5_1).toNat * 9)).off + 1, none⟩ = some (.int .i64 ((rd_T95 l0 x5_1).f0.f1)) ∧ w'.cell? ⟨(ad141.add ((x5_1).toNat * 9)).block, (ad141.add ((x5_1).toNat * 9)).off + 2, none⟩ = some (.int .i64 ((rd_T95 l0 x5_1).f1)) ∧ w'.cell? ⟨(ad141.add ((x5_1).toNat * 9)).block, (ad141.add ((x5_1).toNat * 9)).off + 3, none⟩ = some (.int .i64 ((rd_T95 l0 x5_1).f2)) ∧ w'.cell? ⟨(ad141.add ((x5_1).toNat * 9)).block, (ad141.add ((x5_1).toNat * 9)).off + 4, none⟩ = some (.int .i64 ((rd_T95 l0 x5_1).f3)) ∧ w'.cell? ⟨(ad141.add ((x5_1).toNat * 9)).block, (ad141.add ((x5_1).toNat * 9)).off + 5, none⟩ = some (.string ((rd_T95 l0 x5_1).f4.f0)) ∧ w'.cell? ⟨(ad141.add ((x5_1).toNat * 9)).block, (ad141.add ((x5_1).toNat * 9)).off + 6, none⟩ = some (.string ((rd_T95 l0 x5_1).f4.f1)) ∧ w'.cell? ⟨(ad141.add ((x5_1).toNat * 9)).block, (ad141.add ((x5_1).toNat * 9)).off + 7, none⟩ = some (.string ((rd_T95 l0 x5_1).f5)) ∧ w'.cell? ⟨(ad141.add ((x5_1).toNat * 9)).block, (ad141.add ((x5_1).toNat * 9)).off + 8, none⟩ = some (.string ((rd_T95 l0 x5_1).f6)) ∧ w'.cell? (ad142.add ((x5_1).toNat * 9)) = some (.int .i64 ((rd_T95 l1 x5_1).f0.f0)) ∧ w'.cell? ⟨(ad142.add ((x5_1).toNat * 9)).block, (ad142.add ((x5_1).toNat * 9)).off + 1, none⟩ = some (.int .i64 ((rd_T95 l1 x5_1).f0.f1)) ∧ w'.cell? ⟨(ad142.add ((x5_1).toNat * 9)).block, (ad142.add ((x5_1).toNat * 9)).off + 2, none⟩ = some (.int .i64 ((rd_T95 l1 x5_1).f1)) ∧ w'.cell? ⟨(ad142.add ((x5_1).toNat * 9)).block, (ad142.add ((x5_1).toNat * 9)).off + 3, none⟩ = some (.int .i64 ((rd_T95 l1 x5_1).f2)) ∧ w'.cell? ⟨(ad142.add ((x5_1).toNat * 9)).block, (ad142.add ((x5_1).toNat * 9)).off + 4, none⟩ = some (.int .i64 ((rd_T95 l1 x5_1).f3)) ∧ w'.cell? ⟨(ad142.add ((x5_1).toNat * 9)).block, (ad142.add ((x5_1).toNat * 9)).off + 5, none⟩ = some (.string ((rd_T95 l1 x5_1).f4.f0)) ∧ w'.cell? ⟨(ad142.add ((x5_1).toNat * 9)).block, (ad142.add ((x5_1).toNat * 9)).off + 6, none⟩ = some (.string ((rd_T95 l1 x5_1).f4.f1)) ∧ w'.cell? ⟨(ad142.add ((x5_1).toNat * 9)).block, (ad142.add ((x5_1).toNat * 9)).off + 7, none⟩ = some (.string ((rd_T95 l1 x5_1).f5)) ∧ w'.cell? ⟨(ad142.add ((x5_1).toNat * 9)).block, (ad142.add ((x5_1).toNat * 9)).off + 8, none⟩ = some (.string ((rd_T95 l1 x5_1).f6))) (ds := []) pkb10_0 (by kernel_rfl) rfl rfl ⟨((HB.out.cell (World.block_lt_of_cell? w _ hw141_0)).trans hw141_0), ((HB.out.cell (World.block_lt_of_cell? w _ hw141_1)).trans hw141_1), ((HB.out.cell (World.block_lt_of_cell? w _ hw141_2)).trans hw141_2), ((HB.out.cell (World.block_lt_of_cell? w _ hw141_3)).trans hw141_3), ((HB.out.cell (World.block_lt_of_cell? w _ hw141_4)).trans hw141_4), ((HB.out.cell (World.block_lt_of_cell? w _ hw141_5)).trans hw141_5), ((HB.out.cell (World.block_lt_of_cell? w _ hw141_6)).trans hw141_6), ((HB.out.cell (World.block_lt_of_cell? w _ hw141_7)).trans hw141_7), ((HB.out.cell (World.block_lt_of_cell? w _ hw141_8)).trans hw141_8), ((HB.out.cell (World.block_lt_of_cell? w _ hw142_0)).trans hw142_0), ((HB.out.cell (World.block_lt_of_cell? w _ hw142_1)).trans hw142_1), ((HB.out.cell (World.block_lt_of_cell? w _ hw142_2)).trans hw142_2), ((HB.out.cell (World.block_lt_of_cell? w _ hw142_3)).trans hw142_3), ((HB.out.cell (World.block_lt_of_cell? w _ hw142_4)).trans hw142_4), ((HB.out.cell (World.block_lt_of_cell? w _ hw142_5)).trans hw142_5), ((HB.out.cell (World.block_lt_of_cell? w _ hw142_6)).trans hw142_6), ((HB.out.cell (World.block_lt_of_cell? w _ hw142_7)).trans hw142_7), ((HB.out.cell (World.block_lt_of_cell? w _ hw142_8)).trans hw142_8)⟩ (fun hHeld => ?_); refine with_tabW laws_eqDirChangeS.tab6 laws_eqDirChangeS.bits6 (fun HT_ HW_ => ?_)
        generalize wr.drew = w9 at HB hx141_0 hx141_1 hx141_2 hx141_3 hx141_4 hx141_5 hx141_6 hx141_7 hx141_8 hx142_0 hx142_1 hx142_2 hx142_3 hx142_4 hx142_5 hx142_6 hx142_7 hx142_8 hHeld ⊢
        refine pure_ (i := 0) (N := some 17) (v := ?_) (a' := ?_) pkb10_1 rfl rfl (any_of HT_.out (by kernel_rfl)) (fun _ _ _ h => h) (Or.inl ⟨by rfl, ?_⟩) ?_ ?_; rotate_left; (intro w'; go_simp; with_reducible rfl); rotate_left; (simp only [Act.put, pk1, pk2, pk3, i64_w, i32_w]; rfl)
        refine pure_ (i := 1) (N := some 18) (v := ?_) (a' := ?_) pkb10_2 rfl rfl (any_of HT_.out (by kernel_rfl)) (fun _ _ _ h => h) (Or.inl ⟨by rfl, ?_⟩) ?_ ?_; rotate_left; (intro w'; go_simp; with_reducible rfl); rotate_left; (simp only [Act.put, pk1, pk2, pk3, i64_w, i32_w]; rfl)
        refine pure_ (i := 2) (N := some 19) (v := ?_) (a' := ?_) pkb10_3 rfl rfl (any_of HT_.out (by kernel_rfl)) (fun _ _ _ h => h) (Or.inl ⟨by rfl, ?_⟩) ?_ ?_; rotate_left; (intro w'; go_simp; with_reducible rfl); rotate_left; (simp only [Act.put, pk1, pk2, pk3, i64_w, i32_w]; rfl)
        refine pure_ (i := 4) (N := some 21) (v := ?_) (a' := ?_) #[true, true, true, false, true, false, false, false, false, false] rfl rfl (any_of HT_.out (by kernel_rfl)) (fun _ _ _ h => h) (Or.inl ⟨by rfl, ?_⟩) ?_ ?_; rotate_left; (intro w'; go_simp; with_reducible rfl); rotate_left; (simp only [Act.put, pk1, pk2, pk3, i64_w, i32_w]; rfl)
        refine pure_ (i := 5) (N := some 22) (v := ?_) (a' := ?_) #[true, true, true, false, true, true, false, false, false, false] rfl rfl (any_of HT_.out (by kernel_rfl)) (fun _ _ _ h => h) (Or.inl ⟨by rfl, ?_⟩) ?_ ?_; rotate_left; (intro w'; go_simp; with_reducible rfl); rotate_left; (simp only [Act.put, pk1, pk2, pk3, i64_w, i32_w]; rfl)
        refine pure_ (i := 6) (N := some 23) (v := ?_) (a' := ?_) #[true, true, true, false, true, true, true, false, false, false] rfl rfl (any_of HT_.out (by kernel_rfl)) (fun _ _ _ h => h) (Or.inl ⟨by rfl, ?_⟩) ?_ ?_; rotate_left; (intro w'; go_simp; with_reducible rfl); rotate_left; (simp only [Act.put, pk1, pk2, pk3, i64_w, i32_w]; rfl)
        refine take_ (i := 3) (N := some 20) (v := ?_) (a' := ?_) pkb10_7 rfl rfl (take_ofW HT_.out HW_.out (by kernel_rfl)) (fun _ _ _ h => h) (Or.inl ⟨by rfl, ?_⟩) hHeld ?_ ?_; rotate_left; (rintro w' ⟨s0, s1, s2, s3, s4, s5, s6, s7, s8, s9, s10, s11, s12, s13, s14, s15, s16, s17⟩; go_simp; with_reducible rfl); rotate_left; (simp only [Act.put, pk1, pk2, pk3, i64_w, i32_w]; rfl)
        refine take_ (i := 7) (N := some 24) (v := ?_) (a' := ?_) pkb10_8 rfl rfl (take_ofW HT_.out HW_.out (by kernel_rfl)) (fun _ _ _ h => h) (Or.inl ⟨by rfl, ?_⟩) hHeld ?_ ?_; rotate_left; (rintro w' ⟨s0, s1, s2, s3, s4, s5, s6, s7, s8, s9, s10, s11, s12, s13, s14, s15, s16, s17⟩; go_simp; with_reducible rfl); rotate_left; (simp only [Act.put, pk1, pk2, pk3, i64_w, i32_w]; rfl)
        refine one_ (i := 8) (N := some 25) pkb10_9 rfl rfl (one_of HT_.out (by kernel_rfl)) (by decide) (fun K hK => ?_)
        refine goes_ Try.func50 (by kernel_rfl) rfl #[.agg #[.int .i64 ((rd_T95 l0 x5_1).f0.f0), .int .i64 ((rd_T95 l0 x5_1).f0.f1), .int .i64 ((rd_T95 l0 x5_1).f1), .int .i64 ((rd_T95 l0 x5_1).f2), .int .i64 ((rd_T95 l0 x5_1).f3), .string ((rd_T95 l0 x5_1).f4.f0), .string ((rd_T95 l0 x5_1).f4.f1), .string ((rd_T95 l0 x5_1).f5), .string ((rd_T95 l0 x5_1).f6)], .agg #[.int .i64 ((rd_T95 l1 x5_1).f0.f0), .int .i64 ((rd_T95 l1 x5_1).f0.f1), .int .i64 ((rd_T95 l1 x5_1).f1), .int .i64 ((rd_T95 l1 x5_1).f2), .int .i64 ((rd_T95 l1 x5_1).f3), .string ((rd_T95 l1 x5_1).f4.f0), .string ((rd_T95 l1 x5_1).f4.f1), .string ((rd_T95 l1 x5_1).f5), .string ((rd_T95 l1 x5_1).f6)]] (by rfl) rfl rfl (by (try simp only [List.map_toArray, List.map_cons, List.map_nil]); first | done | rfl | (simp only [List.length_drop, List.length_take]; rfl)) ?_
        with_reducible refine (laws_eqDirChange.calls ((rd_T95 l0 x5_1).f0.f0) ((rd_T95 l0 x5_1).f0.f1) ((rd_T95 l0 x5_1).f1) ((rd_T95 l0 x5_1).f2) ((rd_T95 l0 x5_1).f3) ((rd_T95 l0 x5_1).f4.f0) ((rd_T95 l0 x5_1).f4.f1) ((rd_T95 l0 x5_1).f5) ((rd_T95 l0 x5_1).f6) ((rd_T95 l1 x5_1).f0.f0) ((rd_T95 l1 x5_1).f0.f1) ((rd_T95 l1 x5_1).f1) ((rd_T95 l1 x5_1).f2) ((rd_T95 l1 x5_1).f3) ((rd_T95 l1 x5_1).f4.f0) ((rd_T95 l1 x5_1).f4.f1) ((rd_T95 l1 x5_1).f5) ((rd_T95 l1 x5_1).f6) true _ A7.out).mono ?_
        rintro e w10 ⟨rfl, hb⟩
        refine ⟨_, rfl, ?_⟩
        have n0_ := Aside0.mk (below_step (by repeat (first | (with_reducible first | exact HB.out | apply pkA | apply pkN | apply pkD) | exact HB.out)) hb)
        clear HB
        have HB := n0_
        clear n0_
        (try clear hb)
        (try clear hb2)
        (try clear hk)
        (try clear hi)
        refine hK.out _ _ ⟨((HB.out.cell (World.block_lt_of_cell? w _ hw141_0)).trans hw141_0), ((HB.out.cell (World.block_lt_of_cell? w _ hw141_1)).trans hw141_1), ((HB.out.cell (World.block_lt_of_cell? w _ hw141_2)).trans hw141_2), ((HB.out.cell (World.block_lt_of_cell? w _ hw141_3)).trans hw141_3), ((HB.out.cell (World.block_lt_of_cell? w _ hw141_4)).trans hw141_4), ((HB.out.cell (World.block_lt_of_cell? w _ hw141_5)).trans hw141_5), ((HB.out.cell (World.block_lt_of_cell? w _ hw141_6)).trans hw141_6), ((HB.out.cell (World.block_lt_of_cell? w _ hw141_7)).trans hw141_7), ((HB.out.cell (World.block_lt_of_cell? w _ hw141_8)).trans hw141_8), ((HB.out.cell (World.block_lt_of_cell? w _ hw142_0)).trans hw142_0), ((HB.out.cell (World.block_lt_of_cell? w _ hw142_1)).trans hw142_1), ((HB.out.cell (World.block_lt_of_cell? w _ hw142_2)).trans hw142_2), ((HB.out.cell (World.block_lt_of_cell? w _ hw142_3)).trans hw142_3), ((HB.out.cell (World.block_lt_of_cell? w _ hw142_4)).trans hw142_4), ((HB.out.cell (World.block_lt_of_cell? w _ hw142_5)).trans hw142_5), ((HB.out.cell (World.block_lt_of_cell? w _ hw142_6)).trans hw142_6), ((HB.out.cell (World.block_lt_of_cell? w _ hw142_7)).trans hw142_7), ((HB.out.cell (World.block_lt_of_cell? w _ hw142_8)).trans hw142_8)⟩ (fun hHeld => ?_)
        clear hK K
        refine norm_ (a' := ?_) ?_ ?_
        rotate_left
        ·show Act.put _ (some 25) _ = _
         simp only [Act.put, pk1, pk2, pk3, i64_w, i32_w]
         rfl
        refine pure_ (i := 9) (N := some 26) (v := ?_) (a' := ?_) pkb10_10 rfl rfl (any_of HT_.out (by kernel_rfl)) (fun _ _ _ h => h) (Or.inl ⟨by rfl, ?_⟩) ?_ ?_; rotate_left; (intro w'; go_simp; with_reducible rfl); rotate_left; (simp only [Act.put, pk1, pk2, pk3, i64_w, i32_w]; rfl)
        refine done_ (done_of HT_.out (by kernel_rfl)) ?_
        try go_wp2
        go_roundg k1
        case measure => have := HK1.out; omega
        case rel => exact ⟨(wrap64 (x5_1 + 1)), (by first | rfl | (simp; done) | (simp [pw_ne_nil, pw_eq_nil]; done) | (simp [*]; done)), H', ⟨by have := HK1.out; omega⟩, ⟨by repeat (first | (with_reducible first | exact HB.out | apply pkA | apply pkN | apply pkD) | exact HB.out)⟩⟩
       ·replace c8 := Bool.eq_false_iff.mpr c8
        subst c8
        rw [if_neg (show ¬ (false = true) by decide)] at H
        obtain rfl := Option.some.inj H
        try go_wp2
        have n0_ := Aside0.mk (pkD HB.out)
        clear HB
        have HB := n0_
        clear n0_
        have p141 : 0 ≤ (x5_1 : Int) := of_decide_eq_true (by first | (with_reducible assumption) | assumption)
        have q141 : x5_1 < (l0.length : Int) := of_decide_eq_true (by first | (with_reducible assumption) | assumption)
        obtain ⟨ad141, e141, hx141_0, hx141_1, hx141_2, hx141_3, hx141_4, hx141_5, hx141_6, hx141_7, hx141_8⟩ := at_T95 HR0.out x5_1 p141 q141
        have hw141_8 := hx141_8
        have hw141_7 := hx141_7
        have hw141_6 := hx141_6
        have hw141_5 := hx141_5
        have hw141_4 := hx141_4
        have hw141_3 := hx141_3
        have hw141_2 := hx141_2
        have hw141_1 := hx141_1
        have hw141_0 := hx141_0
        cases e141
        obtain ⟨hx141_0, hx141_1, hx141_2, hx141_3, hx141_4, hx141_5, hx141_6, hx141_7, hx141_8⟩ := pk_up9 HB.out hx141_0 hx141_1 hx141_2 hx141_3 hx141_4 hx141_5 hx141_6 hx141_7 hx141_8
        replace p141 := eq_true p141
        replace q141 := eq_true q141
        have p142 : 0 ≤ (x5_1 : Int) := of_decide_eq_true (by first | (with_reducible assumption) | assumption)
        have q142 : x5_1 < (l1.length : Int) := of_decide_eq_true (by first | (with_reducible assumption) | assumption)
        obtain ⟨ad142, e142, hx142_0, hx142_1, hx142_2, hx142_3, hx142_4, hx142_5, hx142_6, hx142_7, hx142_8⟩ := at_T95 HR1.out x5_1 p142 q142
        have hw142_8 := hx142_8
        have hw142_7 := hx142_7
        have hw142_6 := hx142_6
        have hw142_5 := hx142_5
        have hw142_4 := hx142_4
        have hw142_3 := hx142_3
        have hw142_2 := hx142_2
        have hw142_1 := hx142_1
        have hw142_0 := hx142_0
        cases e142
        obtain ⟨hx142_0, hx142_1, hx142_2, hx142_3, hx142_4, hx142_5, hx142_6, hx142_7, hx142_8⟩ := pk_up9 HB.out hx142_0 hx142_1 hx142_2 hx142_3 hx142_4 hx142_5 hx142_6 hx142_7 hx142_8
        replace p142 := eq_true p142
        replace q142 := eq_true q142
        refine start_ (n := 10) (S := fun w' => w'.cell? (ad141.add ((x5_1).toNat * 9)) = some (.int .i64 ((rd_T95 l0 x5_1).f0.f0)) ∧ w'.cell? ⟨(ad141.add ((x5_1).toNat * 9)).block, (ad141.add ((x5_1).toNat * 9)).off + 1, none⟩ = some (.int .i64 ((rd_T95 l0 x5_1).f0.f1)) ∧ w'.cell? ⟨(ad141.add ((x5_1).toNat * 9)).block, (ad141.add ((x5_1).toNat * 9)).off + 2, none⟩ = some (.int .i64 ((rd_T95 l0 x5_1).f1)) ∧ w'.cell? ⟨(ad141.add ((x5_1).toNat * 9)).block, (ad141.add ((x5_1).toNat * 9)).off + 3, none⟩ = some (.int .i64 ((rd_T95 l0 x5_1).f2)) ∧ w'.cell? ⟨(ad141.add ((x5_1).toNat * 9)).block, (ad141.add ((x5_1).toNat * 9)).off + 4, none⟩ = some (.int .i64 ((rd_T95 l0 x5_1).f3)) ∧ w'.cell? ⟨(ad141.add ((x5_1).toNat * 9)).block, (ad141.add ((x5_1).toNat * 9)).off + 5, none⟩ = some (.string ((rd_T95 l0 x5_1).f4.f0)) ∧ w'.cell? ⟨(ad141.add ((x5_1).toNat * 9)).block, (ad141.add ((x5_1).toNat * 9)).off + 6, none⟩ = some (.string ((rd_T95 l0 x5_1).f4.f1)) ∧ w'.cell? ⟨(ad141.add ((x5_1).toNat * 9)).block, (ad141.add ((x5_1).toNat * 9)).off + 7, none⟩ = some (.string ((rd_T95 l0 x5_1).f5)) ∧ w'.cell? ⟨(ad141.add ((x5_1).toNat * 9)).block, (ad141.add ((x5_1).toNat * 9)).off + 8, none⟩ = some (.string ((rd_T95 l0 x5_1).f6)) ∧ w'.cell? (ad142.add ((x5_1).toNat * 9)) = some (.int .i64 ((rd_T95 l1 x5_1).f0.f0)) ∧ w'.cell? ⟨(ad142.add ((x5_1).toNat * 9)).block, (ad142.add ((x5_1).toNat * 9)).off + 1, none⟩ = some (.int .i64 ((rd_T95 l1 x5_1).f0.f1)) ∧ w'.cell? ⟨(ad142.add ((x5_1).toNat * 9)).block, (ad142.add ((x5_1).toNat * 9)).off + 2, none⟩ = some (.int .i64 ((rd_T95 l1 x5_1).f1)) ∧ w'.cell? ⟨(ad142.add ((x5_1).toNat * 9)).block, (ad142.add ((x5_1).toNat * 9)).off + 3, none⟩ = some (.int .i64 ((rd_T95 l1 x5_1).f2)) ∧ w'.cell? ⟨(ad142.add ((x5_1).toNat * 9)).block, (ad142.add ((x5_1).toNat * 9)).off + 4, none⟩ = some (.int .i64 ((rd_T95 l1 x5_1).f3)) ∧ w'.cell? ⟨(ad142.add ((x5_1).toNat * 9)).block, (ad142.add ((x5_1).toNat * 9)).off + 5, none⟩ = some (.string ((rd_T95 l1 x5_1).f4.f0)) ∧ w'.cell? ⟨(ad142.add ((x5_1).toNat * 9)).block, (ad142.add ((x5_1).toNat * 9)).off + 6, none⟩ = some (.string ((rd_T95 l1 x5_1).f4.f1)) ∧ w'.cell? ⟨(ad142.add ((x5_1).toNat * 9)).block, (ad142.add ((x5_1).toNat * 9)).off + 7, none⟩ = some (.string ((rd_T95 l1 x5_1).f5)) ∧ w'.cell? ⟨(ad142.add ((x5_1).toNat * 9)).block, (ad142.add ((x5_1).toNat * 9)).off + 8, none⟩ = some (.string ((rd_T95 l1 x5_1).f6))) (ds := []) pkb10_0 (by kernel_rfl) rfl rfl ⟨((HB.out.cell (World.block_lt_of_cell? w _ hw141_0)).trans hw141_0), ((HB.out.cell (World.block_lt_of_cell? w _ hw141_1)).trans hw141_1), ((HB.out.cell (World.block_lt_of_cell? w _ hw141_2)).trans hw141_2), ((HB.out.cell (World.block_lt_of_cell? w _ hw141_3)).trans hw141_3), ((HB.out.cell (World.block_lt_of_cell? w _ hw141_4)).trans hw141_4), ((HB.out.cell (World.block_lt_of_cell? w _ hw141_5)).trans hw141_5), ((HB.out.cell (World.block_lt_of_cell? w _ hw141_6)).trans hw141_6), ((HB.out.cell (World.block_lt_of_cell? w _ hw141_7)).trans hw141_7), ((HB.out.cell (World.block_lt_of_cell? w _ hw141_8)).trans hw141_8), ((HB.out.cell (World.block_lt_of_cell? w _ hw142_0)).trans hw142_0), ((HB.out.cell (World.block_lt_of_cell? w _ hw142_1)).trans hw142_1), ((HB.out.cell (World.block_lt_of_cell? w _ hw142_2)).trans hw142_2), ((HB.out.cell (World.block_lt_of_cell? w _ hw142_3)).trans hw142_3), ((HB.out.cell (World.block_lt_of_cell? w _ hw142_4)).trans hw142_4), ((HB.out.cell (World.block_lt_of_cell? w _ hw142_5)).trans hw142_5), ((HB.out.cell (World.block_lt_of_cell? w _ hw142_6)).trans hw142_6), ((HB.out.cell (World.block_lt_of_cell? w _ hw142_7)).trans hw142_7), ((HB.out.cell (World.block_lt_of_cell? w _ hw142_8)).trans hw142_8)⟩ (fun hHeld => ?_); refine with_tabW laws_eqDirChangeS.tab6 laws_eqDirChangeS.bits6 (fun HT_ HW_ => ?_)
        generalize wr.drew = w11 at HB hx141_0 hx141_1 hx141_2 hx141_3 hx141_4 hx141_5 hx141_6 hx141_7 hx141_8 hx142_0 hx142_1 hx142_2 hx142_3 hx142_4 hx142_5 hx142_6 hx142_7 hx142_8 hHeld ⊢
        refine pure_ (i := 0) (N := some 17) (v := ?_) (a' := ?_) pkb10_1 rfl rfl (any_of HT_.out (by kernel_rfl)) (fun _ _ _ h => h) (Or.inl ⟨by rfl, ?_⟩) ?_ ?_; rotate_left; (intro w'; go_simp; with_reducible rfl); rotate_left; (simp only [Act.put, pk1, pk2, pk3, i64_w, i32_w]; rfl)
        refine pure_ (i := 1) (N := some 18) (v := ?_) (a' := ?_) pkb10_2 rfl rfl (any_of HT_.out (by kernel_rfl)) (fun _ _ _ h => h) (Or.inl ⟨by rfl, ?_⟩) ?_ ?_; rotate_left; (intro w'; go_simp; with_reducible rfl); rotate_left; (simp only [Act.put, pk1, pk2, pk3, i64_w, i32_w]; rfl)
        refine pure_ (i := 2) (N := some 19) (v := ?_) (a' := ?_) pkb10_3 rfl rfl (any_of HT_.out (by kernel_rfl)) (fun _ _ _ h => h) (Or.inl ⟨by rfl, ?_⟩) ?_ ?_; rotate_left; (intro w'; go_simp; with_reducible rfl); rotate_left; (simp only [Act.put, pk1, pk2, pk3, i64_w, i32_w]; rfl)
        refine pure_ (i := 4) (N := some 21) (v := ?_) (a' := ?_) #[true, true, true, false, true, false, false, false, false, false] rfl rfl (any_of HT_.out (by kernel_rfl)) (fun _ _ _ h => h) (Or.inl ⟨by rfl, ?_⟩) ?_ ?_; rotate_left; (intro w'; go_simp; with_reducible rfl); rotate_left; (simp only [Act.put, pk1, pk2, pk3, i64_w, i32_w]; rfl)
        refine pure_ (i := 5) (N := some 22) (v := ?_) (a' := ?_) #[true, true, true, false, true, true, false, false, false, false] rfl rfl (any_of HT_.out (by kernel_rfl)) (fun _ _ _ h => h) (Or.inl ⟨by rfl, ?_⟩) ?_ ?_; rotate_left; (intro w'; go_simp; with_reducible rfl); rotate_left; (simp only [Act.put, pk1, pk2, pk3, i64_w, i32_w]; rfl)
        refine pure_ (i := 6) (N := some 23) (v := ?_) (a' := ?_) #[true, true, true, false, true, true, true, false, false, false] rfl rfl (any_of HT_.out (by kernel_rfl)) (fun _ _ _ h => h) (Or.inl ⟨by rfl, ?_⟩) ?_ ?_; rotate_left; (intro w'; go_simp; with_reducible rfl); rotate_left; (simp only [Act.put, pk1, pk2, pk3, i64_w, i32_w]; rfl)
        refine take_ (i := 3) (N := some 20) (v := ?_) (a' := ?_) pkb10_7 rfl rfl (take_ofW HT_.out HW_.out (by kernel_rfl)) (fun _ _ _ h => h) (Or.inl ⟨by rfl, ?_⟩) hHeld ?_ ?_; rotate_left; (rintro w' ⟨s0, s1, s2, s3, s4, s5, s6, s7, s8, s9, s10, s11, s12, s13, s14, s15, s16, s17⟩; go_simp; with_reducible rfl); rotate_left; (simp only [Act.put, pk1, pk2, pk3, i64_w, i32_w]; rfl)
        refine take_ (i := 7) (N := some 24) (v := ?_) (a' := ?_) pkb10_8 rfl rfl (take_ofW HT_.out HW_.out (by kernel_rfl)) (fun _ _ _ h => h) (Or.inl ⟨by rfl, ?_⟩) hHeld ?_ ?_; rotate_left; (rintro w' ⟨s0, s1, s2, s3, s4, s5, s6, s7, s8, s9, s10, s11, s12, s13, s14, s15, s16, s17⟩; go_simp; with_reducible rfl); rotate_left; (simp only [Act.put, pk1, pk2, pk3, i64_w, i32_w]; rfl)
        refine one_ (i := 8) (N := some 25) pkb10_9 rfl rfl (one_of HT_.out (by kernel_rfl)) (by decide) (fun K hK => ?_)
        refine goes_ Try.func50 (by kernel_rfl) rfl #[.agg #[.int .i64 ((rd_T95 l0 x5_1).f0.f0), .int .i64 ((rd_T95 l0 x5_1).f0.f1), .int .i64 ((rd_T95 l0 x5_1).f1), .int .i64 ((rd_T95 l0 x5_1).f2), .int .i64 ((rd_T95 l0 x5_1).f3), .string ((rd_T95 l0 x5_1).f4.f0), .string ((rd_T95 l0 x5_1).f4.f1), .string ((rd_T95 l0 x5_1).f5), .string ((rd_T95 l0 x5_1).f6)], .agg #[.int .i64 ((rd_T95 l1 x5_1).f0.f0), .int .i64 ((rd_T95 l1 x5_1).f0.f1), .int .i64 ((rd_T95 l1 x5_1).f1), .int .i64 ((rd_T95 l1 x5_1).f2), .int .i64 ((rd_T95 l1 x5_1).f3), .string ((rd_T95 l1 x5_1).f4.f0), .string ((rd_T95 l1 x5_1).f4.f1), .string ((rd_T95 l1 x5_1).f5), .string ((rd_T95 l1 x5_1).f6)]] (by rfl) rfl rfl (by (try simp only [List.map_toArray, List.map_cons, List.map_nil]); first | done | rfl | (simp only [List.length_drop, List.length_take]; rfl)) ?_
        with_reducible refine (laws_eqDirChange.calls ((rd_T95 l0 x5_1).f0.f0) ((rd_T95 l0 x5_1).f0.f1) ((rd_T95 l0 x5_1).f1) ((rd_T95 l0 x5_1).f2) ((rd_T95 l0 x5_1).f3) ((rd_T95 l0 x5_1).f4.f0) ((rd_T95 l0 x5_1).f4.f1) ((rd_T95 l0 x5_1).f5) ((rd_T95 l0 x5_1).f6) ((rd_T95 l1 x5_1).f0.f0) ((rd_T95 l1 x5_1).f0.f1) ((rd_T95 l1 x5_1).f1) ((rd_T95 l1 x5_1).f2) ((rd_T95 l1 x5_1).f3) ((rd_T95 l1 x5_1).f4.f0) ((rd_T95 l1 x5_1).f4.f1) ((rd_T95 l1 x5_1).f5) ((rd_T95 l1 x5_1).f6) false _ A7.out).mono ?_
        rintro e w12 ⟨rfl, hb⟩
        refine ⟨_, rfl, ?_⟩
        have n0_ := Aside0.mk (below_step (by repeat (first | (with_reducible first | exact HB.out | apply pkA | apply pkN | apply pkD) | exact HB.out)) hb)
        clear HB
        have HB := n0_
        clear n0_
        (try clear hb)
        (try clear hb2)
        (try clear hk)
        (try clear hi)
        refine hK.out _ _ ⟨((HB.out.cell (World.block_lt_of_cell? w _ hw141_0)).trans hw141_0), ((HB.out.cell (World.block_lt_of_cell? w _ hw141_1)).trans hw141_1), ((HB.out.cell (World.block_lt_of_cell? w _ hw141_2)).trans hw141_2), ((HB.out.cell (World.block_lt_of_cell? w _ hw141_3)).trans hw141_3), ((HB.out.cell (World.block_lt_of_cell? w _ hw141_4)).trans hw141_4), ((HB.out.cell (World.block_lt_of_cell? w _ hw141_5)).trans hw141_5), ((HB.out.cell (World.block_lt_of_cell? w _ hw141_6)).trans hw141_6), ((HB.out.cell (World.block_lt_of_cell? w _ hw141_7)).trans hw141_7), ((HB.out.cell (World.block_lt_of_cell? w _ hw141_8)).trans hw141_8), ((HB.out.cell (World.block_lt_of_cell? w _ hw142_0)).trans hw142_0), ((HB.out.cell (World.block_lt_of_cell? w _ hw142_1)).trans hw142_1), ((HB.out.cell (World.block_lt_of_cell? w _ hw142_2)).trans hw142_2), ((HB.out.cell (World.block_lt_of_cell? w _ hw142_3)).trans hw142_3), ((HB.out.cell (World.block_lt_of_cell? w _ hw142_4)).trans hw142_4), ((HB.out.cell (World.block_lt_of_cell? w _ hw142_5)).trans hw142_5), ((HB.out.cell (World.block_lt_of_cell? w _ hw142_6)).trans hw142_6), ((HB.out.cell (World.block_lt_of_cell? w _ hw142_7)).trans hw142_7), ((HB.out.cell (World.block_lt_of_cell? w _ hw142_8)).trans hw142_8)⟩ (fun hHeld => ?_)
        clear hK K
        refine norm_ (a' := ?_) ?_ ?_
        rotate_left
        ·show Act.put _ (some 25) _ = _
         simp only [Act.put, pk1, pk2, pk3, i64_w, i32_w]
         rfl
        refine pure_ (i := 9) (N := some 26) (v := ?_) (a' := ?_) pkb10_10 rfl rfl (any_of HT_.out (by kernel_rfl)) (fun _ _ _ h => h) (Or.inl ⟨by rfl, ?_⟩) ?_ ?_; rotate_left; (intro w'; go_simp; with_reducible rfl); rotate_left; (simp only [Act.put, pk1, pk2, pk3, i64_w, i32_w]; rfl)
        refine done_ (done_of HT_.out (by kernel_rfl)) ?_
        try go_wp2
        go_ret
        exact ⟨by first | rfl | (simp [errW_none, errW_some] <;> rfl) | (simp [*, errW_none, errW_some] <;> rfl), by repeat (first | (with_reducible first | exact HB.out | apply pkA | apply pkN | apply pkD) | exact HB.out)⟩
      ·rw [if_neg c6] at H
       exact absurd H (by simp)
     ·rw [if_neg c5] at H
      exact absurd H (by simp)
    ·rw [if_neg c4] at H
     have c4b0 : decide (x5_1 < (l0.length : Int)) = false := decide_eq_false c4
     clear c4
     obtain rfl := Option.some.inj H
     go_wp2
     go_ret
     exact ⟨by first | rfl | (simp [errW_none, errW_some] <;> rfl) | (simp [*, errW_none, errW_some] <;> rfl), by repeat (first | (with_reducible first | exact HB.out | apply pkA | apply pkN | apply pkD) | exact HB.out)⟩
 ·rw [if_neg c3] at H
  have c3b0 : ((l0.length : Int) == (l1.length : Int)) = false := beq_eq_false_iff_ne.mpr c3
  have c3b1 : ((l0.length : Int) != (l1.length : Int)) = true := bne_iff_ne.mpr c3
  have c3b2 : (l0.length == l1.length) = false := by first | simpa using c3 | (simp at c3 ⊢; omega)
  obtain rfl := Option.some.inj H
  go_enter Try.func14, Try.ntmps14
  go_wp2
  go_ret
  exact ⟨by first | rfl | (simp [errW_none, errW_some] <;> rfl) | (simp [*, errW_none, errW_some] <;> rfl), by repeat (first | (with_reducible first | exact HB.out | apply pkA | apply pkN | apply pkD) | exact HB.out)⟩

/-! ### laws_eqStampS: function 27 -/
def laws_eqStampS.l0 : Nat → List (S25) → List (S25) → Int → Option (Bool)
 | 0, _, _, _ => none
 | k + 1, x0, x1, x5 => if x5 < (x0.length : Int) then (if 0 ≤ x5 then (if x5 < (x1.length : Int) then ((laws_eqStamp.f ((rd_T25 x0 x5).f0) ((rd_T25 x0 x5).f1) ((rd_T25 x1 x5).f0) ((rd_T25 x1 x5).f1)).bind fun t146 => (if t146 = true then (laws_eqStampS.l0 k x0 x1 (wrap64 (x5 + 1))) else (some false))) else (none)) else (none)) else (some true)
def laws_eqStampS.f (k : Nat) (l0 : List (S25)) (l1 : List (S25)) : Option (Bool) := if (l0.length : Int) = (l1.length : Int) then (laws_eqStampS.l0 k l0 l1 0) else (some false)
theorem laws_eqStampS.mono_l : ∀ k, (∀ y0 y1 y2, LeO (laws_eqStampS.l0 k y0 y1 y2) (laws_eqStampS.l0 (k + 1) y0 y1 y2))
 | 0 => fun _ _ _ r h => by simp [laws_eqStampS.l0] at h
 | k + 1 => by
  have ih0 := laws_eqStampS.mono_l k
  ·intro y0 y1 y2
   unfold laws_eqStampS.l0
   repeat' first
   | (with_reducible exact ih0 _ _ _)
   | (with_reducible exact LeO.refl _)
   | (with_reducible exact LeO.none _)
   | (with_reducible refine LeO.ite ?_ ?_)
   | (with_reducible refine LeO.bind ?_ (fun _ => ?_))
   | exact ih0 _ _ _
   | exact LeO.none _
   | refine LeO.ite ?_ ?_
   | refine LeO.bind ?_ (fun _ => ?_)
theorem laws_eqStampS.mono : ∀ a0 a1 k, LeO (laws_eqStampS.f k a0 a1) (laws_eqStampS.f (k + 1) a0 a1) := by
 intro a0 a1 k
 have ih0 := laws_eqStampS.mono_l k
 unfold laws_eqStampS.f
 repeat' first
   | (with_reducible exact ih0 _ _ _)
   | (with_reducible exact LeO.refl _)
   | (with_reducible exact LeO.none _)
   | (with_reducible refine LeO.ite ?_ ?_)
   | (with_reducible refine LeO.bind ?_ (fun _ => ?_))
   | exact ih0 _ _ _
   | exact LeO.none _
   | refine LeO.ite ?_ ?_
   | refine LeO.bind ?_ (fun _ => ?_)
def laws_eqStampS.T6 : Bool × List (List Nat × List Nat) := (true, [([], []), ([], []), ([0, 1], [0, 1]), ([2], [2]), ([], []), ([], []), ([4, 5], [4, 5]), ([6], [6]), ([3, 7], [3, 7]), ([8], [8])])
def laws_eqStampS.B6 : List Nat := [0, 0, 3, 7, 0, 0, 48, 112, 255, 511]
theorem laws_eqStampS.tab6 : rtab .any (opsOf Try.f27 6) = laws_eqStampS.T6 := by kernel_rfl
theorem laws_eqStampS.bits6 : waitsOk laws_eqStampS.T6.2 laws_eqStampS.B6 = true := by kernel_rfl
set_option maxHeartbeats 8000000 in
set_option maxRecDepth 100000 in
theorem laws_eqStampS.calls (k : Nat) (A0 : Option Addr) (c0 : Nat) (l0 : List (S25)) (A1 : Option Addr) (c1 : Nat) (l1 : List (S25)) (r : Bool) (w : World) (hr0 : Kd.C k25 w A0 l0.length l0) (hc0 : l0.length ≤ c0) (hr1 : Kd.C k25 w A1 l1.length l1) (hc1 : l1.length ≤ c1) (h : laws_eqStampS.f k l0 l1 = some r) :
  Calls Try.prog 27 #[.slice A0 l0.length c0, .slice A1 l1.length c1] w fun e w' => e = .returned (.bool r) ∧ Below w.heap.size w w' := by
 have hu25 := Try.underlying25
 have HR0 := Aside0.mk hr0
 have HC0 := Aside0.mk hc0
 clear hr0 hc0
 have HR1 := Aside0.mk hr1
 have HC1 := Aside0.mk hc1
 clear hr1 hc1
 have HB := Aside0.mk (Below.refl w.heap.size w)
 have H : (if (l0.length : Int) = (l1.length : Int) then (laws_eqStampS.l0 k l0 l1 0) else (some false)) = some r := h
 clear h
 by_cases c3 : (l0.length : Int) = (l1.length : Int)
 ·rw [if_pos c3] at H
  have c3b0 : ((l0.length : Int) == (l1.length : Int)) = true := beq_iff_eq.mpr c3
  have c3b1 : ((l0.length : Int) != (l1.length : Int)) = false := bne_eq_false_iff_eq.mpr c3
  have c3b2 : (l0.length == l1.length) = true := by first | simpa using c3 | (simp at c3 ⊢; omega)
  clear c3
  have H' := Aside0.mk H
  clear H
  go_enter Try.func27, Try.ntmps27
  go_wp2
  go_loopg [5] k (fun kq v5 w' => ∃ (x5_1 : Int), v5 = .int .i64 x5_1 ∧ Aside0 (laws_eqStampS.l0 kq l0 l1 x5_1 = some r) ∧ Aside0 (kq ≤ k) ∧ Aside0 (Below w.heap.size w w'))
  case atStart => exact ⟨(0), (by first | rfl | (simp; done) | (simp [pw_ne_nil, pw_eq_nil]; done) | (simp [*]; done)), H', ⟨Nat.le_refl _⟩, ⟨by repeat (first | (with_reducible first | exact HB.out | apply pkA | apply pkN | apply pkD) | exact HB.out)⟩⟩
  case round =>
   clear H'
   try clear c1; try clear c2; try clear p2; try clear c3; try clear c3b0; try clear c3b1; try clear c3b2
   obtain ⟨x5_1, rfl, HA, HK1, HB⟩ := hrel
   cases gk with
   | zero => exact absurd HA.out (by simp [laws_eqStampS.l0])
   | succ k1 =>
    have H := HA.out
    clear HA
    simp only [laws_eqStampS.l0] at H
    by_cases c4 : x5_1 < (l0.length : Int)
    ·rw [if_pos c4] at H
     have c4b0 : decide (x5_1 < (l0.length : Int)) = true := decide_eq_true c4
     clear c4
     by_cases c5 : 0 ≤ x5_1
     ·rw [if_pos c5] at H
      have c5b0 : decide (0 ≤ x5_1) = true := decide_eq_true c5
      clear c5
      by_cases c6 : x5_1 < (l1.length : Int)
      ·rw [if_pos c6] at H
       have c6b0 : decide (x5_1 < (l1.length : Int)) = true := decide_eq_true c6
       clear c6
       replace H := Option.bind_eq_some_iff.mp H
       obtain ⟨t146, A70, H⟩ := H
       try dsimp only at H
       have A7 := Aside0.mk A70
       clear A70
       by_cases c8 : t146 = true
       ·subst c8
        rw [if_pos rfl] at H
        have H' := Aside0.mk H
        clear H
        try go_wp2
        have n0_ := Aside0.mk (pkD HB.out)
        clear HB
        have HB := n0_
        clear n0_
        have p144 : 0 ≤ (x5_1 : Int) := of_decide_eq_true (by first | (with_reducible assumption) | assumption)
        have q144 : x5_1 < (l0.length : Int) := of_decide_eq_true (by first | (with_reducible assumption) | assumption)
        obtain ⟨ad144, e144, hx144_0, hx144_1⟩ := at_T25 HR0.out x5_1 p144 q144
        have hw144_1 := hx144_1
        have hw144_0 := hx144_0
        cases e144
        replace hx144_0 := (HB.out.cell (World.block_lt_of_cell? w _ hx144_0)).trans hx144_0
        replace hx144_1 := (HB.out.cell (World.block_lt_of_cell? w _ hx144_1)).trans hx144_1
        replace p144 := eq_true p144
        replace q144 := eq_true q144
        have p145 : 0 ≤ (x5_1 : Int) := of_decide_eq_true (by first | (with_reducible assumption) | assumption)
        have q145 : x5_1 < (l1.length : Int) := of_decide_eq_true (by first | (with_reducible assumption) | assumption)
        obtain ⟨ad145, e145, hx145_0, hx145_1⟩ := at_T25 HR1.out x5_1 p145 q145
        have hw145_1 := hx145_1
        have hw145_0 := hx145_0
        cases e145
        replace hx145_0 := (HB.out.cell (World.block_lt_of_cell? w _ hx145_0)).trans hx145_0
        replace hx145_1 := (HB.out.cell (World.block_lt_of_cell? w _ hx145_1)).trans hx145_1
        replace p145 := eq_true p145
        replace q145 := eq_true q145
        refine start_ (n := 10) (S := fun w' => w'.cell? (ad144.add ((x5_1).toNat * 2)) = some (.int .i64 ((rd_T25 l0 x5_1).f0)) ∧ w'.cell? ⟨(ad144.add ((x5_1).toNat * 2)).block, (ad144.add ((x5_1).toNat * 2)).off + 1, none⟩ = some (.int .i64 ((rd_T25 l0 x5_1).f1)) ∧ w'.cell? (ad145.add ((x5_1).toNat * 2)) = some (.int .i64 ((rd_T25 l1 x5_1).f0)) ∧ w'.cell? ⟨(ad145.add ((x5_1).toNat * 2)).block, (ad145.add ((x5_1).toNat * 2)).off + 1, none⟩ = some (.int .i64 ((rd_T25 l1 x5_1).f1))) (ds := []) pkb10_0 (by kernel_rfl) rfl rfl ⟨((HB.out.cell (World.block_lt_of_cell? w _ hw144_0)).trans hw144_0), ((HB.out.cell (World.block_lt_of_cell? w _ hw144_1)).trans hw144_1), ((HB.out.cell (World.block_lt_of_cell? w _ hw145_0)).trans hw145_0), ((HB.out.cell (World.block_lt_of_cell? w _ hw145_1)).trans hw145_1)⟩ (fun hHeld => ?_); refine with_tabW laws_eqStampS.tab6 laws_eqStampS.bits6 (fun HT_ HW_ => ?_)
        generalize wr.drew = w9 at HB hx144_0 hx144_1 hx145_0 hx145_1 hHeld ⊢
        refine pure_ (i := 0) (N := some 17) (v := ?_) (a' := ?_) pkb10_1 rfl rfl (any_of HT_.out (by kernel_rfl)) (fun _ _ _ h => h) (Or.inl ⟨by rfl, ?_⟩) ?_ ?_; rotate_left; (intro w'; go_simp; with_reducible rfl); rotate_left; (simp only [Act.put, pk1, pk2, pk3, i64_w, i32_w]; rfl)
        refine pure_ (i := 1) (N := some 18) (v := ?_) (a' := ?_) pkb10_2 rfl rfl (any_of HT_.out (by kernel_rfl)) (fun _ _ _ h => h) (Or.inl ⟨by rfl, ?_⟩) ?_ ?_; rotate_left; (intro w'; go_simp; with_reducible rfl); rotate_left; (simp only [Act.put, pk1, pk2, pk3, i64_w, i32_w]; rfl)
        refine pure_ (i := 2) (N := some 19) (v := ?_) (a' := ?_) pkb10_3 rfl rfl (any_of HT_.out (by kernel_rfl)) (fun _ _ _ h => h) (Or.inl ⟨by rfl, ?_⟩) ?_ ?_; rotate_left; (intro w'; go_simp; with_reducible rfl); rotate_left; (simp only [Act.put, pk1, pk2, pk3, i64_w, i32_w]; rfl)
        refine pure_ (i := 4) (N := some 21) (v := ?_) (a' := ?_) #[true, true, true, false, true, false, false, false, false, false] rfl rfl (any_of HT_.out (by kernel_rfl)) (fun _ _ _ h => h) (Or.inl ⟨by rfl, ?_⟩) ?_ ?_; rotate_left; (intro w'; go_simp; with_reducible rfl); rotate_left; (simp only [Act.put, pk1, pk2, pk3, i64_w, i32_w]; rfl)
        refine pure_ (i := 5) (N := some 22) (v := ?_) (a' := ?_) #[true, true, true, false, true, true, false, false, false, false] rfl rfl (any_of HT_.out (by kernel_rfl)) (fun _ _ _ h => h) (Or.inl ⟨by rfl, ?_⟩) ?_ ?_; rotate_left; (intro w'; go_simp; with_reducible rfl); rotate_left; (simp only [Act.put, pk1, pk2, pk3, i64_w, i32_w]; rfl)
        refine pure_ (i := 6) (N := some 23) (v := ?_) (a' := ?_) #[true, true, true, false, true, true, true, false, false, false] rfl rfl (any_of HT_.out (by kernel_rfl)) (fun _ _ _ h => h) (Or.inl ⟨by rfl, ?_⟩) ?_ ?_; rotate_left; (intro w'; go_simp; with_reducible rfl); rotate_left; (simp only [Act.put, pk1, pk2, pk3, i64_w, i32_w]; rfl)
        refine take_ (i := 3) (N := some 20) (v := ?_) (a' := ?_) pkb10_7 rfl rfl (take_ofW HT_.out HW_.out (by kernel_rfl)) (fun _ _ _ h => h) (Or.inl ⟨by rfl, ?_⟩) hHeld ?_ ?_; rotate_left; (rintro w' ⟨s0, s1, s2, s3⟩; go_simp; with_reducible rfl); rotate_left; (simp only [Act.put, pk1, pk2, pk3, i64_w, i32_w]; rfl)
        refine take_ (i := 7) (N := some 24) (v := ?_) (a' := ?_) pkb10_8 rfl rfl (take_ofW HT_.out HW_.out (by kernel_rfl)) (fun _ _ _ h => h) (Or.inl ⟨by rfl, ?_⟩) hHeld ?_ ?_; rotate_left; (rintro w' ⟨s0, s1, s2, s3⟩; go_simp; with_reducible rfl); rotate_left; (simp only [Act.put, pk1, pk2, pk3, i64_w, i32_w]; rfl)
        refine one_ (i := 8) (N := some 25) pkb10_9 rfl rfl (one_of HT_.out (by kernel_rfl)) (by decide) (fun K hK => ?_)
        refine goes_ Try.func13 (by kernel_rfl) rfl #[.agg #[.int .i64 ((rd_T25 l0 x5_1).f0), .int .i64 ((rd_T25 l0 x5_1).f1)], .agg #[.int .i64 ((rd_T25 l1 x5_1).f0), .int .i64 ((rd_T25 l1 x5_1).f1)]] (by rfl) rfl rfl (by (try simp only [List.map_toArray, List.map_cons, List.map_nil]); first | done | rfl | (simp only [List.length_drop, List.length_take]; rfl)) ?_
        with_reducible refine (laws_eqStamp.calls ((rd_T25 l0 x5_1).f0) ((rd_T25 l0 x5_1).f1) ((rd_T25 l1 x5_1).f0) ((rd_T25 l1 x5_1).f1) true _ A7.out).mono ?_
        rintro e w10 ⟨rfl, hb⟩
        refine ⟨_, rfl, ?_⟩
        have n0_ := Aside0.mk (below_step (by repeat (first | (with_reducible first | exact HB.out | apply pkA | apply pkN | apply pkD) | exact HB.out)) hb)
        clear HB
        have HB := n0_
        clear n0_
        (try clear hb)
        (try clear hb2)
        (try clear hk)
        (try clear hi)
        refine hK.out _ _ ⟨((HB.out.cell (World.block_lt_of_cell? w _ hw144_0)).trans hw144_0), ((HB.out.cell (World.block_lt_of_cell? w _ hw144_1)).trans hw144_1), ((HB.out.cell (World.block_lt_of_cell? w _ hw145_0)).trans hw145_0), ((HB.out.cell (World.block_lt_of_cell? w _ hw145_1)).trans hw145_1)⟩ (fun hHeld => ?_)
        clear hK K
        refine norm_ (a' := ?_) ?_ ?_
        rotate_left
        ·show Act.put _ (some 25) _ = _
         simp only [Act.put, pk1, pk2, pk3, i64_w, i32_w]
         rfl
        refine pure_ (i := 9) (N := some 26) (v := ?_) (a' := ?_) pkb10_10 rfl rfl (any_of HT_.out (by kernel_rfl)) (fun _ _ _ h => h) (Or.inl ⟨by rfl, ?_⟩) ?_ ?_; rotate_left; (intro w'; go_simp; with_reducible rfl); rotate_left; (simp only [Act.put, pk1, pk2, pk3, i64_w, i32_w]; rfl)
        refine done_ (done_of HT_.out (by kernel_rfl)) ?_
        try go_wp2
        go_roundg k1
        case measure => have := HK1.out; omega
        case rel => exact ⟨(wrap64 (x5_1 + 1)), (by first | rfl | (simp; done) | (simp [pw_ne_nil, pw_eq_nil]; done) | (simp [*]; done)), H', ⟨by have := HK1.out; omega⟩, ⟨by repeat (first | (with_reducible first | exact HB.out | apply pkA | apply pkN | apply pkD) | exact HB.out)⟩⟩
       ·replace c8 := Bool.eq_false_iff.mpr c8
        subst c8
        rw [if_neg (show ¬ (false = true) by decide)] at H
        obtain rfl := Option.some.inj H
        try go_wp2
        have n0_ := Aside0.mk (pkD HB.out)
        clear HB
        have HB := n0_
        clear n0_
        have p144 : 0 ≤ (x5_1 : Int) := of_decide_eq_true (by first | (with_reducible assumption) | assumption)
        have q144 : x5_1 < (l0.length : Int) := of_decide_eq_true (by first | (with_reducible assumption) | assumption)
        obtain ⟨ad144, e144, hx144_0, hx144_1⟩ := at_T25 HR0.out x5_1 p144 q144
        have hw144_1 := hx144_1
        have hw144_0 := hx144_0
        cases e144
        replace hx144_0 := (HB.out.cell (World.block_lt_of_cell? w _ hx144_0)).trans hx144_0
        replace hx144_1 := (HB.out.cell (World.block_lt_of_cell? w _ hx144_1)).trans hx144_1
        replace p144 := eq_true p144
        replace q144 := eq_true q144
        have p145 : 0 ≤ (x5_1 : Int) := of_decide_eq_true (by first | (with_reducible assumption) | assumption)
        have q145 : x5_1 < (l1.length : Int) := of_decide_eq_true (by first | (with_reducible assumption) | assumption)
        obtain ⟨ad145, e145, hx145_0, hx145_1⟩ := at_T25 HR1.out x5_1 p145 q145
        have hw145_1 := hx145_1
        have hw145_0 := hx145_0
        cases e145
        replace hx145_0 := (HB.out.cell (World.block_lt_of_cell? w _ hx145_0)).trans hx145_0
        replace hx145_1 := (HB.out.cell (World.block_lt_of_cell? w _ hx145_1)).trans hx145_1
        replace p145 := eq_true p145
        replace q145 := eq_true q145
        refine start_ (n := 10) (S := fun w' => w'.cell? (ad144.add ((x5_1).toNat * 2)) = some (.int .i64 ((rd_T25 l0 x5_1).f0)) ∧ w'.cell? ⟨(ad144.add ((x5_1).toNat * 2)).block, (ad144.add ((x5_1).toNat * 2)).off + 1, none⟩ = some (.int .i64 ((rd_T25 l0 x5_1).f1)) ∧ w'.cell? (ad145.add ((x5_1).toNat * 2)) = some (.int .i64 ((rd_T25 l1 x5_1).f0)) ∧ w'.cell? ⟨(ad145.add ((x5_1).toNat * 2)).block, (ad145.add ((x5_1).toNat * 2)).off + 1, none⟩ = some (.int .i64 ((rd_T25 l1 x5_1).f1))) (ds := []) pkb10_0 (by kernel_rfl) rfl rfl ⟨((HB.out.cell (World.block_lt_of_cell? w _ hw144_0)).trans hw144_0), ((HB.out.cell (World.block_lt_of_cell? w _ hw144_1)).trans hw144_1), ((HB.out.cell (World.block_lt_of_cell? w _ hw145_0)).trans hw145_0), ((HB.out.cell (World.block_lt_of_cell? w _ hw145_1)).trans hw145_1)⟩ (fun hHeld => ?_); refine with_tabW laws_eqStampS.tab6 laws_eqStampS.bits6 (fun HT_ HW_ => ?_)
        generalize wr.drew = w11 at HB hx144_0 hx144_1 hx145_0 hx145_1 hHeld ⊢
        refine pure_ (i := 0) (N := some 17) (v := ?_) (a' := ?_) pkb10_1 rfl rfl (any_of HT_.out (by kernel_rfl)) (fun _ _ _ h => h) (Or.inl ⟨by rfl, ?_⟩) ?_ ?_; rotate_left; (intro w'; go_simp; with_reducible rfl); rotate_left; (simp only [Act.put, pk1, pk2, pk3, i64_w, i32_w]; rfl)
        refine pure_ (i := 1) (N := some 18) (v := ?_) (a' := ?_) pkb10_2 rfl rfl (any_of HT_.out (by kernel_rfl)) (fun _ _ _ h => h) (Or.inl ⟨by rfl, ?_⟩) ?_ ?_; rotate_left; (intro w'; go_simp; with_reducible rfl); rotate_left; (simp only [Act.put, pk1, pk2, pk3, i64_w, i32_w]; rfl)
        refine pure_ (i := 2) (N := some 19) (v := ?_) (a' := ?_) pkb10_3 rfl rfl (any_of HT_.out (by kernel_rfl)) (fun _ _ _ h => h) (Or.inl ⟨by rfl, ?_⟩) ?_ ?_; rotate_left; (intro w'; go_simp; with_reducible rfl); rotate_left; (simp only [Act.put, pk1, pk2, pk3, i64_w, i32_w]; rfl)
        refine pure_ (i := 4) (N := some 21) (v := ?_) (a' := ?_) #[true, true, true, false, true, false, false, false, false, false] rfl rfl (any_of HT_.out (by kernel_rfl)) (fun _ _ _ h => h) (Or.inl ⟨by rfl, ?_⟩) ?_ ?_; rotate_left; (intro w'; go_simp; with_reducible rfl); rotate_left; (simp only [Act.put, pk1, pk2, pk3, i64_w, i32_w]; rfl)
        refine pure_ (i := 5) (N := some 22) (v := ?_) (a' := ?_) #[true, true, true, false, true, true, false, false, false, false] rfl rfl (any_of HT_.out (by kernel_rfl)) (fun _ _ _ h => h) (Or.inl ⟨by rfl, ?_⟩) ?_ ?_; rotate_left; (intro w'; go_simp; with_reducible rfl); rotate_left; (simp only [Act.put, pk1, pk2, pk3, i64_w, i32_w]; rfl)
        refine pure_ (i := 6) (N := some 23) (v := ?_) (a' := ?_) #[true, true, true, false, true, true, true, false, false, false] rfl rfl (any_of HT_.out (by kernel_rfl)) (fun _ _ _ h => h) (Or.inl ⟨by rfl, ?_⟩) ?_ ?_; rotate_left; (intro w'; go_simp; with_reducible rfl); rotate_left; (simp only [Act.put, pk1, pk2, pk3, i64_w, i32_w]; rfl)
        refine take_ (i := 3) (N := some 20) (v := ?_) (a' := ?_) pkb10_7 rfl rfl (take_ofW HT_.out HW_.out (by kernel_rfl)) (fun _ _ _ h => h) (Or.inl ⟨by rfl, ?_⟩) hHeld ?_ ?_; rotate_left; (rintro w' ⟨s0, s1, s2, s3⟩; go_simp; with_reducible rfl); rotate_left; (simp only [Act.put, pk1, pk2, pk3, i64_w, i32_w]; rfl)
        refine take_ (i := 7) (N := some 24) (v := ?_) (a' := ?_) pkb10_8 rfl rfl (take_ofW HT_.out HW_.out (by kernel_rfl)) (fun _ _ _ h => h) (Or.inl ⟨by rfl, ?_⟩) hHeld ?_ ?_; rotate_left; (rintro w' ⟨s0, s1, s2, s3⟩; go_simp; with_reducible rfl); rotate_left; (simp only [Act.put, pk1, pk2, pk3, i64_w, i32_w]; rfl)
        refine one_ (i := 8) (N := some 25) pkb10_9 rfl rfl (one_of HT_.out (by kernel_rfl)) (by decide) (fun K hK => ?_)
        refine goes_ Try.func13 (by kernel_rfl) rfl #[.agg #[.int .i64 ((rd_T25 l0 x5_1).f0), .int .i64 ((rd_T25 l0 x5_1).f1)], .agg #[.int .i64 ((rd_T25 l1 x5_1).f0), .int .i64 ((rd_T25 l1 x5_1).f1)]] (by rfl) rfl rfl (by (try simp only [List.map_toArray, List.map_cons, List.map_nil]); first | done | rfl | (simp only [List.length_drop, List.length_take]; rfl)) ?_
        with_reducible refine (laws_eqStamp.calls ((rd_T25 l0 x5_1).f0) ((rd_T25 l0 x5_1).f1) ((rd_T25 l1 x5_1).f0) ((rd_T25 l1 x5_1).f1) false _ A7.out).mono ?_
        rintro e w12 ⟨rfl, hb⟩
        refine ⟨_, rfl, ?_⟩
        have n0_ := Aside0.mk (below_step (by repeat (first | (with_reducible first | exact HB.out | apply pkA | apply pkN | apply pkD) | exact HB.out)) hb)
        clear HB
        have HB := n0_
        clear n0_
        (try clear hb)
        (try clear hb2)
        (try clear hk)
        (try clear hi)
        refine hK.out _ _ ⟨((HB.out.cell (World.block_lt_of_cell? w _ hw144_0)).trans hw144_0), ((HB.out.cell (World.block_lt_of_cell? w _ hw144_1)).trans hw144_1), ((HB.out.cell (World.block_lt_of_cell? w _ hw145_0)).trans hw145_0), ((HB.out.cell (World.block_lt_of_cell? w _ hw145_1)).trans hw145_1)⟩ (fun hHeld => ?_)
        clear hK K
        refine norm_ (a' := ?_) ?_ ?_
        rotate_left
        ·show Act.put _ (some 25) _ = _
         simp only [Act.put, pk1, pk2, pk3, i64_w, i32_w]
         rfl
        refine pure_ (i := 9) (N := some 26) (v := ?_) (a' := ?_) pkb10_10 rfl rfl (any_of HT_.out (by kernel_rfl)) (fun _ _ _ h => h) (Or.inl ⟨by rfl, ?_⟩) ?_ ?_; rotate_left; (intro w'; go_simp; with_reducible rfl); rotate_left; (simp only [Act.put, pk1, pk2, pk3, i64_w, i32_w]; rfl)
        refine done_ (done_of HT_.out (by kernel_rfl)) ?_
        try go_wp2
        go_ret
        exact ⟨by first | rfl | (simp [errW_none, errW_some] <;> rfl) | (simp [*, errW_none, errW_some] <;> rfl), by repeat (first | (with_reducible first | exact HB.out | apply pkA | apply pkN | apply pkD) | exact HB.out)⟩
      ·rw [if_neg c6] at H
       exact absurd H (by simp)
     ·rw [if_neg c5] at H
      exact absurd H (by simp)
    ·rw [if_neg c4] at H
     have c4b0 : decide (x5_1 < (l0.length : Int)) = false := decide_eq_false c4
     clear c4
     obtain rfl := Option.some.inj H
     go_wp2
     go_ret
     exact ⟨by first | rfl | (simp [errW_none, errW_some] <;> rfl) | (simp [*, errW_none, errW_some] <;> rfl), by repeat (first | (with_reducible first | exact HB.out | apply pkA | apply pkN | apply pkD) | exact HB.out)⟩
 ·rw [if_neg c3] at H
  have c3b0 : ((l0.length : Int) == (l1.length : Int)) = false := beq_eq_false_iff_ne.mpr c3
  have c3b1 : ((l0.length : Int) != (l1.length : Int)) = true := bne_iff_ne.mpr c3
  have c3b2 : (l0.length == l1.length) = false := by first | simpa using c3 | (simp at c3 ⊢; omega)
  obtain rfl := Option.some.inj H
  go_enter Try.func27, Try.ntmps27
  go_wp2
  go_ret
  exact ⟨by first | rfl | (simp [errW_none, errW_some] <;> rfl) | (simp [*, errW_none, errW_some] <;> rfl), by repeat (first | (with_reducible first | exact HB.out | apply pkA | apply pkN | apply pkD) | exact HB.out)⟩

end Go.Proofs.Ytcgiegkcmofhhab.PFnExactMissing
