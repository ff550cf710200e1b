-- Written for this claim by a program of this session, which goes by the kit's print and takes contracts proved by hand.
import Derived.Test.YtcgiegkcmofhhaaPFnExactGoodValuex0
import Derived.Test.YtcgiegkcmofhhaaPFnExactGoodValuex12
namespace Go.Proofs.Ytcgiegkcmofhhaa.PFnExactGoodValue
open Go.RowKit Go.Proofs.YtcgiegkcmofhhaaW.PrintWords Go.Proofs.YtcgiegkcmofhhaaW.PrintLast Go.Proofs.YtcgiegkcmofhhaaW.PrintMore
attribute [local go_sem] max2_int min2_int max_two min_two max_three min_three max_four min_four   -- for this text's walks alone
set_option linter.unusedVariables false
set_option linter.unusedSimpArgs false

/-! ### laws_eqAtomS: function 85 -/
def laws_eqAtomS.l0 : Nat → List (S60) → List (S60) → Int → Option (Bool)
  | 0, _, _, _ => none
  | k + 1, x0, x1, x5 => if x5 < (x0.length : Int) then (if 0 ≤ x5 then (if x5 < (x1.length : Int) then ((laws_eqAtom.f ((rd_T60 x0 x5).f0) ((rd_T60 x0 x5).f1) ((rd_T60 x0 x5).f2) ((rd_T60 x0 x5).f3) ((rd_T60 x1 x5).f0) ((rd_T60 x1 x5).f1) ((rd_T60 x1 x5).f2) ((rd_T60 x1 x5).f3)).bind fun t223 => (if t223 = true then (laws_eqAtomS.l0 k x0 x1 (wrap64 (x5 + 1))) else (some false))) else (none)) else (none)) else (some true)
def laws_eqAtomS.f (k : Nat) (l0 : List (S60)) (l1 : List (S60)) : Option (Bool) := if (l0.length : Int) = (l1.length : Int) then (laws_eqAtomS.l0 k l0 l1 0) else (some false)
theorem laws_eqAtomS.mono_l : ∀ k, (∀ y0 y1 y2, LeO (laws_eqAtomS.l0 k y0 y1 y2) (laws_eqAtomS.l0 (k + 1) y0 y1 y2))
  | 0 => fun _ _ _ r h => by simp [laws_eqAtomS.l0] at h
  | k + 1 => by
    have ih0 := laws_eqAtomS.mono_l k
    · intro y0 y1 y2
      unfold laws_eqAtomS.l0
      repeat' first
      | (with_reducible exact ih0 _ _ _)
      | (with_reducible exact LeO.refl _)
      | (with_reducible exact LeO.none _)
      | (with_reducible refine LeO.ite ?_ ?_)
      | (with_reducible refine LeO.bind ?_ (fun _ => ?_))
      | exact ih0 _ _ _
      | exact LeO.none _
      | refine LeO.ite ?_ ?_
      | refine LeO.bind ?_ (fun _ => ?_)
theorem laws_eqAtomS.mono : ∀ a0 a1 k, LeO (laws_eqAtomS.f k a0 a1) (laws_eqAtomS.f (k + 1) a0 a1) := by
  intro a0 a1 k
  have ih0 := laws_eqAtomS.mono_l k
  unfold laws_eqAtomS.f
  repeat' first
      | (with_reducible exact ih0 _ _ _)
      | (with_reducible exact LeO.refl _)
      | (with_reducible exact LeO.none _)
      | (with_reducible refine LeO.ite ?_ ?_)
      | (with_reducible refine LeO.bind ?_ (fun _ => ?_))
      | exact ih0 _ _ _
      | exact LeO.none _
      | refine LeO.ite ?_ ?_
      | refine LeO.bind ?_ (fun _ => ?_)
def laws_eqAtomS.T6 : Bool × List (List Nat × List Nat) := (true, [([], []), ([], []), ([0, 1], [0, 1]), ([2], [2]), ([], []), ([], []), ([4, 5], [4, 5]), ([6], [6]), ([3, 7], [3, 7]), ([8], [8])])
def laws_eqAtomS.B6 : List Nat := [0, 0, 3, 7, 0, 0, 48, 112, 255, 511]
theorem laws_eqAtomS.tab6 : rtab .any (opsOf Try.f85 6) = laws_eqAtomS.T6 := by kernel_rfl
theorem laws_eqAtomS.bits6 : waitsOk laws_eqAtomS.T6.2 laws_eqAtomS.B6 = true := by kernel_rfl
set_option maxHeartbeats 8000000 in
set_option maxRecDepth 100000 in
theorem laws_eqAtomS.calls (k : Nat) (A0 : Option Addr) (c0 : Nat) (l0 : List (S60)) (A1 : Option Addr) (c1 : Nat) (l1 : List (S60)) (r : Bool) (w : World) (hr0 : Kd.C k60 w A0 l0.length l0) (hc0 : l0.length ≤ c0) (hr1 : Kd.C k60 w A1 l1.length l1) (hc1 : l1.length ≤ c1) (h : laws_eqAtomS.f k l0 l1 = some r) :
    Calls Try.prog 85 #[.slice A0 l0.length c0, .slice A1 l1.length c1] w fun e w' => e = .returned (.bool r) ∧ Below w.heap.size w w' := by
  have hu60 := Try.underlying60
  have HR0 := Aside0.mk hr0
  have HC0 := Aside0.mk hc0
  clear hr0 hc0
  have HR1 := Aside0.mk hr1
  have HC1 := Aside0.mk hc1
  clear hr1 hc1
  have HB := Aside0.mk (Below.refl w.heap.size w)
  have H : (if (l0.length : Int) = (l1.length : Int) then (laws_eqAtomS.l0 k l0 l1 0) else (some false)) = some r := h
  clear h
  by_cases c3 : (l0.length : Int) = (l1.length : Int)
  · rw [if_pos c3] at H
    have c3b0 : ((l0.length : Int) == (l1.length : Int)) = true := beq_iff_eq.mpr c3
    have c3b1 : ((l0.length : Int) != (l1.length : Int)) = false := bne_eq_false_iff_eq.mpr c3
    have c3b2 : (l0.length == l1.length) = true := by first | simpa using c3 | (simp at c3 ⊢; omega)
    clear c3
    have H' := Aside0.mk H
    clear H
    go_enter Try.func85, Try.ntmps85
    go_wp2
    go_loopg [5] k (fun kq v5 w' => ∃ (x5_1 : Int), v5 = .int .i64 x5_1 ∧ Aside0 (laws_eqAtomS.l0 kq l0 l1 x5_1 = some r) ∧ Aside0 (kq ≤ k) ∧ Aside0 (Below w.heap.size w w'))
    case atStart => exact ⟨(0), (by first | rfl | (simp; done) | (simp [pw_ne_nil, pw_eq_nil]; done) | (simp [*]; done)), H', ⟨Nat.le_refl _⟩, ⟨by repeat (first | (with_reducible first | exact HB.out | apply below_alloc | apply pw_below_drewN | apply below_drew1) | exact HB.out)⟩⟩
    case round =>
      clear H'
      try clear c1
      try clear p2
      try clear c3
      try clear c3b0
      try clear c3b1
      try clear c3b2
      obtain ⟨x5_1, rfl, HA, HK1, HB⟩ := hrel
      cases gk with
      | zero => exact absurd HA.out (by simp [laws_eqAtomS.l0])
      | succ k1 =>
        have H := HA.out
        clear HA
        simp only [laws_eqAtomS.l0] at H
        by_cases c4 : x5_1 < (l0.length : Int)
        · rw [if_pos c4] at H
          have c4b0 : decide (x5_1 < (l0.length : Int)) = true := decide_eq_true c4
          clear c4
          by_cases c5 : 0 ≤ x5_1
          · rw [if_pos c5] at H
            have c5b0 : decide (0 ≤ x5_1) = true := decide_eq_true c5
            clear c5
            by_cases c6 : x5_1 < (l1.length : Int)
            · rw [if_pos c6] at H
              have c6b0 : decide (x5_1 < (l1.length : Int)) = true := decide_eq_true c6
              clear c6
              replace H := Option.bind_eq_some_iff.mp H
              obtain ⟨t223, A70, H⟩ := H
              replace H : (if t223 = true then (laws_eqAtomS.l0 k1 l0 l1 (wrap64 (x5_1 + 1))) else (some false)) = some r := H
              have A7 := Aside0.mk A70
              clear A70
              by_cases c8 : t223 = true
              · subst c8
                have H1 : (laws_eqAtomS.l0 k1 l0 l1 (wrap64 (x5_1 + 1))) = some r := by rw [if_pos rfl] at H; exact H
                clear H
                have H := H1
                clear H1
                have H' := Aside0.mk H
                clear H
                try go_wp2
                have n0_ := Aside0.mk (below_drew1 HB.out)
                clear HB
                have HB := n0_
                clear n0_
                have p221 : 0 ≤ (x5_1 : Int) := of_decide_eq_true (by first | (with_reducible assumption) | assumption)
                have q221 : x5_1 < (l0.length : Int) := of_decide_eq_true (by first | (with_reducible assumption) | assumption)
                obtain ⟨ad221, e221, hx221_0, hx221_1, hx221_2, hx221_3⟩ := at_T60 HR0.out x5_1 p221 q221
                have hw221_3 := hx221_3
                have hw221_2 := hx221_2
                have hw221_1 := hx221_1
                have hw221_0 := hx221_0
                cases e221
                replace hx221_0 := (HB.out.cell (World.block_lt_of_cell? w _ hx221_0)).trans hx221_0
                replace hx221_1 := (HB.out.cell (World.block_lt_of_cell? w _ hx221_1)).trans hx221_1
                replace hx221_2 := (HB.out.cell (World.block_lt_of_cell? w _ hx221_2)).trans hx221_2
                replace hx221_3 := (HB.out.cell (World.block_lt_of_cell? w _ hx221_3)).trans hx221_3
                replace p221 := eq_true p221
                replace q221 := eq_true q221
                have p222 : 0 ≤ (x5_1 : Int) := of_decide_eq_true (by first | (with_reducible assumption) | assumption)
                have q222 : x5_1 < (l1.length : Int) := of_decide_eq_true (by first | (with_reducible assumption) | assumption)
                obtain ⟨ad222, e222, hx222_0, hx222_1, hx222_2, hx222_3⟩ := at_T60 HR1.out x5_1 p222 q222
                have hw222_3 := hx222_3
                have hw222_2 := hx222_2
                have hw222_1 := hx222_1
                have hw222_0 := hx222_0
                cases e222
                replace hx222_0 := (HB.out.cell (World.block_lt_of_cell? w _ hx222_0)).trans hx222_0
                replace hx222_1 := (HB.out.cell (World.block_lt_of_cell? w _ hx222_1)).trans hx222_1
                replace hx222_2 := (HB.out.cell (World.block_lt_of_cell? w _ hx222_2)).trans hx222_2
                replace hx222_3 := (HB.out.cell (World.block_lt_of_cell? w _ hx222_3)).trans hx222_3
                replace p222 := eq_true p222
                replace q222 := eq_true q222
                refine start_ (n := 10) (S := fun w' => w'.cell? (ad221.add ((x5_1).toNat * 4)) = some (.int .i64 ((rd_T60 l0 x5_1).f0)) ∧ w'.cell? ⟨(ad221.add ((x5_1).toNat * 4)).block, (ad221.add ((x5_1).toNat * 4)).off + 1, none⟩ = some (.int .i64 ((rd_T60 l0 x5_1).f1)) ∧ w'.cell? ⟨(ad221.add ((x5_1).toNat * 4)).block, (ad221.add ((x5_1).toNat * 4)).off + 2, none⟩ = some (.string ((rd_T60 l0 x5_1).f2)) ∧ w'.cell? ⟨(ad221.add ((x5_1).toNat * 4)).block, (ad221.add ((x5_1).toNat * 4)).off + 3, none⟩ = some (.string ((rd_T60 l0 x5_1).f3)) ∧ w'.cell? (ad222.add ((x5_1).toNat * 4)) = some (.int .i64 ((rd_T60 l1 x5_1).f0)) ∧ w'.cell? ⟨(ad222.add ((x5_1).toNat * 4)).block, (ad222.add ((x5_1).toNat * 4)).off + 1, none⟩ = some (.int .i64 ((rd_T60 l1 x5_1).f1)) ∧ w'.cell? ⟨(ad222.add ((x5_1).toNat * 4)).block, (ad222.add ((x5_1).toNat * 4)).off + 2, none⟩ = some (.string ((rd_T60 l1 x5_1).f2)) ∧ w'.cell? ⟨(ad222.add ((x5_1).toNat * 4)).block, (ad222.add ((x5_1).toNat * 4)).off + 3, none⟩ = some (.string ((rd_T60 l1 x5_1).f3))) (ds := []) #[false, false, false, false, false, false, false, false, false, false] (by kernel_rfl) rfl rfl ⟨((HB.out.cell (World.block_lt_of_cell? w _ hw221_0)).trans hw221_0), ((HB.out.cell (World.block_lt_of_cell? w _ hw221_1)).trans hw221_1), ((HB.out.cell (World.block_lt_of_cell? w _ hw221_2)).trans hw221_2), ((HB.out.cell (World.block_lt_of_cell? w _ hw221_3)).trans hw221_3), ((HB.out.cell (World.block_lt_of_cell? w _ hw222_0)).trans hw222_0), ((HB.out.cell (World.block_lt_of_cell? w _ hw222_1)).trans hw222_1), ((HB.out.cell (World.block_lt_of_cell? w _ hw222_2)).trans hw222_2), ((HB.out.cell (World.block_lt_of_cell? w _ hw222_3)).trans hw222_3)⟩ (fun hHeld => ?_); refine with_tabW laws_eqAtomS.tab6 laws_eqAtomS.bits6 (fun HT_ HW_ => ?_)
                generalize wr.drew = w9 at HB hx221_0 hx221_1 hx221_2 hx221_3 hx222_0 hx222_1 hx222_2 hx222_3 hHeld ⊢
                refine pure_ (i := 0) (N := some 17) (v := ?_) (a' := ?_) #[true, false, false, false, false, false, false, false, false, false] rfl rfl (any_of HT_.out (by kernel_rfl)) (fun _ _ _ h => h) (Or.inl ⟨by rfl, ?_⟩) ?_ ?_
                rotate_left
                · intro w'
                  go_simp
                  with_reducible rfl
                rotate_left
                · simp only [Act.put, List.setIfInBounds_toArray, List.set_cons_zero, List.set_cons_succ, i64_w, i32_w]
                  rfl
                refine pure_ (i := 1) (N := some 18) (v := ?_) (a' := ?_) #[true, true, false, false, false, false, false, false, false, false] rfl rfl (any_of HT_.out (by kernel_rfl)) (fun _ _ _ h => h) (Or.inl ⟨by rfl, ?_⟩) ?_ ?_
                rotate_left
                · intro w'
                  go_simp
                  with_reducible rfl
                rotate_left
                · simp only [Act.put, List.setIfInBounds_toArray, List.set_cons_zero, List.set_cons_succ, i64_w, i32_w]
                  rfl
                refine pure_ (i := 2) (N := some 19) (v := ?_) (a' := ?_) #[true, true, true, false, false, false, false, false, false, false] rfl rfl (any_of HT_.out (by kernel_rfl)) (fun _ _ _ h => h) (Or.inl ⟨by rfl, ?_⟩) ?_ ?_
                rotate_left
                · intro w'
                  go_simp
                  with_reducible rfl
                rotate_left
                · simp only [Act.put, List.setIfInBounds_toArray, List.set_cons_zero, List.set_cons_succ, i64_w, i32_w]
                  rfl
                refine pure_ (i := 4) (N := some 21) (v := ?_) (a' := ?_) #[true, true, true, false, true, false, false, false, false, false] rfl rfl (any_of HT_.out (by kernel_rfl)) (fun _ _ _ h => h) (Or.inl ⟨by rfl, ?_⟩) ?_ ?_
                rotate_left
                · intro w'
                  go_simp
                  with_reducible rfl
                rotate_left
                · simp only [Act.put, List.setIfInBounds_toArray, List.set_cons_zero, List.set_cons_succ, i64_w, i32_w]
                  rfl
                refine pure_ (i := 5) (N := some 22) (v := ?_) (a' := ?_) #[true, true, true, false, true, true, false, false, false, false] rfl rfl (any_of HT_.out (by kernel_rfl)) (fun _ _ _ h => h) (Or.inl ⟨by rfl, ?_⟩) ?_ ?_
                rotate_left
                · intro w'
                  go_simp
                  with_reducible rfl
                rotate_left
                · simp only [Act.put, List.setIfInBounds_toArray, List.set_cons_zero, List.set_cons_succ, i64_w, i32_w]
                  rfl
                refine pure_ (i := 6) (N := some 23) (v := ?_) (a' := ?_) #[true, true, true, false, true, true, true, false, false, false] rfl rfl (any_of HT_.out (by kernel_rfl)) (fun _ _ _ h => h) (Or.inl ⟨by rfl, ?_⟩) ?_ ?_
                rotate_left
                · intro w'
                  go_simp
                  with_reducible rfl
                rotate_left
                · simp only [Act.put, List.setIfInBounds_toArray, List.set_cons_zero, List.set_cons_succ, i64_w, i32_w]
                  rfl
                refine take_ (i := 3) (N := some 20) (v := ?_) (a' := ?_) #[true, true, true, true, true, true, true, false, false, false] rfl rfl (take_ofW HT_.out HW_.out (by kernel_rfl)) (fun _ _ _ h => h) (Or.inl ⟨by rfl, ?_⟩) hHeld ?_ ?_
                rotate_left
                · rintro w' ⟨s0, s1, s2, s3, s4, s5, s6, s7⟩
                  go_simp
                  with_reducible rfl
                rotate_left
                · simp only [Act.put, List.setIfInBounds_toArray, List.set_cons_zero, List.set_cons_succ, i64_w, i32_w]
                  rfl
                refine take_ (i := 7) (N := some 24) (v := ?_) (a' := ?_) #[true, true, true, true, true, true, true, true, false, false] rfl rfl (take_ofW HT_.out HW_.out (by kernel_rfl)) (fun _ _ _ h => h) (Or.inl ⟨by rfl, ?_⟩) hHeld ?_ ?_
                rotate_left
                · rintro w' ⟨s0, s1, s2, s3, s4, s5, s6, s7⟩
                  go_simp
                  with_reducible rfl
                rotate_left
                · simp only [Act.put, List.setIfInBounds_toArray, List.set_cons_zero, List.set_cons_succ, i64_w, i32_w]
                  rfl
                refine one_ (i := 8) (N := some 25) #[true, true, true, true, true, true, true, true, true, false] rfl rfl (one_of HT_.out (by kernel_rfl)) (by decide) (fun K hK => ?_)
                refine goes_ Try.func84 (by kernel_rfl) rfl #[.agg #[.int .i64 ((rd_T60 l0 x5_1).f0), .int .i64 ((rd_T60 l0 x5_1).f1), .string ((rd_T60 l0 x5_1).f2), .string ((rd_T60 l0 x5_1).f3)], .agg #[.int .i64 ((rd_T60 l1 x5_1).f0), .int .i64 ((rd_T60 l1 x5_1).f1), .string ((rd_T60 l1 x5_1).f2), .string ((rd_T60 l1 x5_1).f3)]] (by rfl) rfl rfl (by (try simp only [List.map_toArray, List.map_cons, List.map_nil]); first | done | rfl | (simp only [List.length_drop, List.length_take]; rfl)) ?_
                with_reducible refine (laws_eqAtom.calls ((rd_T60 l0 x5_1).f0) ((rd_T60 l0 x5_1).f1) ((rd_T60 l0 x5_1).f2) ((rd_T60 l0 x5_1).f3) ((rd_T60 l1 x5_1).f0) ((rd_T60 l1 x5_1).f1) ((rd_T60 l1 x5_1).f2) ((rd_T60 l1 x5_1).f3) true _ A7.out).mono ?_
                rintro e w10 ⟨rfl, hb⟩
                refine ⟨_, rfl, ?_⟩
                have n0_ := Aside0.mk (below_step (by repeat (first | (with_reducible first | exact HB.out | apply below_alloc | apply pw_below_drewN | apply below_drew1) | exact HB.out)) hb)
                clear HB
                have HB := n0_
                clear n0_
                (try clear hb)
                (try clear hb2)
                (try clear hk)
                (try clear hi)
                refine hK.out _ _ ⟨((HB.out.cell (World.block_lt_of_cell? w _ hw221_0)).trans hw221_0), ((HB.out.cell (World.block_lt_of_cell? w _ hw221_1)).trans hw221_1), ((HB.out.cell (World.block_lt_of_cell? w _ hw221_2)).trans hw221_2), ((HB.out.cell (World.block_lt_of_cell? w _ hw221_3)).trans hw221_3), ((HB.out.cell (World.block_lt_of_cell? w _ hw222_0)).trans hw222_0), ((HB.out.cell (World.block_lt_of_cell? w _ hw222_1)).trans hw222_1), ((HB.out.cell (World.block_lt_of_cell? w _ hw222_2)).trans hw222_2), ((HB.out.cell (World.block_lt_of_cell? w _ hw222_3)).trans hw222_3)⟩ (fun hHeld => ?_)
                clear hK K
                refine norm_ (a' := ?_) ?_ ?_
                rotate_left
                · show Act.put _ (some 25) _ = _
                  simp only [Act.put, List.setIfInBounds_toArray, List.set_cons_zero, List.set_cons_succ, i64_w, i32_w]
                  rfl
                refine pure_ (i := 9) (N := some 26) (v := ?_) (a' := ?_) #[true, true, true, true, true, true, true, true, true, true] rfl rfl (any_of HT_.out (by kernel_rfl)) (fun _ _ _ h => h) (Or.inl ⟨by rfl, ?_⟩) ?_ ?_
                rotate_left
                · intro w'
                  go_simp
                  with_reducible rfl
                rotate_left
                · simp only [Act.put, List.setIfInBounds_toArray, List.set_cons_zero, List.set_cons_succ, i64_w, i32_w]
                  rfl
                refine done_ (done_of HT_.out (by kernel_rfl)) ?_
                try go_wp2
                go_roundg k1
                case measure => have := HK1.out; omega
                case rel => exact ⟨(wrap64 (x5_1 + 1)), (by first | rfl | (simp; done) | (simp [pw_ne_nil, pw_eq_nil]; done) | (simp [*]; done)), H', ⟨by have := HK1.out; omega⟩, ⟨by repeat (first | (with_reducible first | exact HB.out | apply below_alloc | apply pw_below_drewN | apply below_drew1) | exact HB.out)⟩⟩
              · replace c8 := Bool.eq_false_iff.mpr c8
                subst c8
                have H1 : (some false) = some r := by rw [if_neg (show ¬ (false = true) by decide)] at H; exact H
                clear H
                have H := H1
                clear H1
                obtain rfl := Option.some.inj H
                try go_wp2
                have n0_ := Aside0.mk (below_drew1 HB.out)
                clear HB
                have HB := n0_
                clear n0_
                have p221 : 0 ≤ (x5_1 : Int) := of_decide_eq_true (by first | (with_reducible assumption) | assumption)
                have q221 : x5_1 < (l0.length : Int) := of_decide_eq_true (by first | (with_reducible assumption) | assumption)
                obtain ⟨ad221, e221, hx221_0, hx221_1, hx221_2, hx221_3⟩ := at_T60 HR0.out x5_1 p221 q221
                have hw221_3 := hx221_3
                have hw221_2 := hx221_2
                have hw221_1 := hx221_1
                have hw221_0 := hx221_0
                cases e221
                replace hx221_0 := (HB.out.cell (World.block_lt_of_cell? w _ hx221_0)).trans hx221_0
                replace hx221_1 := (HB.out.cell (World.block_lt_of_cell? w _ hx221_1)).trans hx221_1
                replace hx221_2 := (HB.out.cell (World.block_lt_of_cell? w _ hx221_2)).trans hx221_2
                replace hx221_3 := (HB.out.cell (World.block_lt_of_cell? w _ hx221_3)).trans hx221_3
                replace p221 := eq_true p221
                replace q221 := eq_true q221
                have p222 : 0 ≤ (x5_1 : Int) := of_decide_eq_true (by first | (with_reducible assumption) | assumption)
                have q222 : x5_1 < (l1.length : Int) := of_decide_eq_true (by first | (with_reducible assumption) | assumption)
                obtain ⟨ad222, e222, hx222_0, hx222_1, hx222_2, hx222_3⟩ := at_T60 HR1.out x5_1 p222 q222
                have hw222_3 := hx222_3
                have hw222_2 := hx222_2
                have hw222_1 := hx222_1
                have hw222_0 := hx222_0
                cases e222
                replace hx222_0 := (HB.out.cell (World.block_lt_of_cell? w _ hx222_0)).trans hx222_0
                replace hx222_1 := (HB.out.cell (World.block_lt_of_cell? w _ hx222_1)).trans hx222_1
                replace hx222_2 := (HB.out.cell (World.block_lt_of_cell? w _ hx222_2)).trans hx222_2
                replace hx222_3 := (HB.out.cell (World.block_lt_of_cell? w _ hx222_3)).trans hx222_3
                replace p222 := eq_true p222
                replace q222 := eq_true q222
                refine start_ (n := 10) (S := fun w' => w'.cell? (ad221.add ((x5_1).toNat * 4)) = some (.int .i64 ((rd_T60 l0 x5_1).f0)) ∧ w'.cell? ⟨(ad221.add ((x5_1).toNat * 4)).block, (ad221.add ((x5_1).toNat * 4)).off + 1, none⟩ = some (.int .i64 ((rd_T60 l0 x5_1).f1)) ∧ w'.cell? ⟨(ad221.add ((x5_1).toNat * 4)).block, (ad221.add ((x5_1).toNat * 4)).off + 2, none⟩ = some (.string ((rd_T60 l0 x5_1).f2)) ∧ w'.cell? ⟨(ad221.add ((x5_1).toNat * 4)).block, (ad221.add ((x5_1).toNat * 4)).off + 3, none⟩ = some (.string ((rd_T60 l0 x5_1).f3)) ∧ w'.cell? (ad222.add ((x5_1).toNat * 4)) = some (.int .i64 ((rd_T60 l1 x5_1).f0)) ∧ w'.cell? ⟨(ad222.add ((x5_1).toNat * 4)).block, (ad222.add ((x5_1).toNat * 4)).off + 1, none⟩ = some (.int .i64 ((rd_T60 l1 x5_1).f1)) ∧ w'.cell? ⟨(ad222.add ((x5_1).toNat * 4)).block, (ad222.add ((x5_1).toNat * 4)).off + 2, none⟩ = some (.string ((rd_T60 l1 x5_1).f2)) ∧ w'.cell? ⟨(ad222.add ((x5_1).toNat * 4)).block, (ad222.add ((x5_1).toNat * 4)).off + 3, none⟩ = some (.string ((rd_T60 l1 x5_1).f3))) (ds := []) #[false, false, false, false, false, false, false, false, false, false] (by kernel_rfl) rfl rfl ⟨((HB.out.cell (World.block_lt_of_cell? w _ hw221_0)).trans hw221_0), ((HB.out.cell (World.block_lt_of_cell? w _ hw221_1)).trans hw221_1), ((HB.out.cell (World.block_lt_of_cell? w _ hw221_2)).trans hw221_2), ((HB.out.cell (World.block_lt_of_cell? w _ hw221_3)).trans hw221_3), ((HB.out.cell (World.block_lt_of_cell? w _ hw222_0)).trans hw222_0), ((HB.out.cell (World.block_lt_of_cell? w _ hw222_1)).trans hw222_1), ((HB.out.cell (World.block_lt_of_cell? w _ hw222_2)).trans hw222_2), ((HB.out.cell (World.block_lt_of_cell? w _ hw222_3)).trans hw222_3)⟩ (fun hHeld => ?_); refine with_tabW laws_eqAtomS.tab6 laws_eqAtomS.bits6 (fun HT_ HW_ => ?_)
                generalize wr.drew = w11 at HB hx221_0 hx221_1 hx221_2 hx221_3 hx222_0 hx222_1 hx222_2 hx222_3 hHeld ⊢
                refine pure_ (i := 0) (N := some 17) (v := ?_) (a' := ?_) #[true, false, false, false, false, false, false, false, false, false] rfl rfl (any_of HT_.out (by kernel_rfl)) (fun _ _ _ h => h) (Or.inl ⟨by rfl, ?_⟩) ?_ ?_
                rotate_left
                · intro w'
                  go_simp
                  with_reducible rfl
                rotate_left
                · simp only [Act.put, List.setIfInBounds_toArray, List.set_cons_zero, List.set_cons_succ, i64_w, i32_w]
                  rfl
                refine pure_ (i := 1) (N := some 18) (v := ?_) (a' := ?_) #[true, true, false, false, false, false, false, false, false, false] rfl rfl (any_of HT_.out (by kernel_rfl)) (fun _ _ _ h => h) (Or.inl ⟨by rfl, ?_⟩) ?_ ?_
                rotate_left
                · intro w'
                  go_simp
                  with_reducible rfl
                rotate_left
                · simp only [Act.put, List.setIfInBounds_toArray, List.set_cons_zero, List.set_cons_succ, i64_w, i32_w]
                  rfl
                refine pure_ (i := 2) (N := some 19) (v := ?_) (a' := ?_) #[true, true, true, false, false, false, false, false, false, false] rfl rfl (any_of HT_.out (by kernel_rfl)) (fun _ _ _ h => h) (Or.inl ⟨by rfl, ?_⟩) ?_ ?_
                rotate_left
                · intro w'
                  go_simp
                  with_reducible rfl
                rotate_left
                · simp only [Act.put, List.setIfInBounds_toArray, List.set_cons_zero, List.set_cons_succ, i64_w, i32_w]
                  rfl
                refine pure_ (i := 4) (N := some 21) (v := ?_) (a' := ?_) #[true, true, true, false, true, false, false, false, false, false] rfl rfl (any_of HT_.out (by kernel_rfl)) (fun _ _ _ h => h) (Or.inl ⟨by rfl, ?_⟩) ?_ ?_
                rotate_left
                · intro w'
                  go_simp
                  with_reducible rfl
                rotate_left
                · simp only [Act.put, List.setIfInBounds_toArray, List.set_cons_zero, List.set_cons_succ, i64_w, i32_w]
                  rfl
                refine pure_ (i := 5) (N := some 22) (v := ?_) (a' := ?_) #[true, true, true, false, true, true, false, false, false, false] rfl rfl (any_of HT_.out (by kernel_rfl)) (fun _ _ _ h => h) (Or.inl ⟨by rfl, ?_⟩) ?_ ?_
                rotate_left
                · intro w'
                  go_simp
                  with_reducible rfl
                rotate_left
                · simp only [Act.put, List.setIfInBounds_toArray, List.set_cons_zero, List.set_cons_succ, i64_w, i32_w]
                  rfl
                refine pure_ (i := 6) (N := some 23) (v := ?_) (a' := ?_) #[true, true, true, false, true, true, true, false, false, false] rfl rfl (any_of HT_.out (by kernel_rfl)) (fun _ _ _ h => h) (Or.inl ⟨by rfl, ?_⟩) ?_ ?_
                rotate_left
                · intro w'
                  go_simp
                  with_reducible rfl
                rotate_left
                · simp only [Act.put, List.setIfInBounds_toArray, List.set_cons_zero, List.set_cons_succ, i64_w, i32_w]
                  rfl
                refine take_ (i := 3) (N := some 20) (v := ?_) (a' := ?_) #[true, true, true, true, true, true, true, false, false, false] rfl rfl (take_ofW HT_.out HW_.out (by kernel_rfl)) (fun _ _ _ h => h) (Or.inl ⟨by rfl, ?_⟩) hHeld ?_ ?_
                rotate_left
                · rintro w' ⟨s0, s1, s2, s3, s4, s5, s6, s7⟩
                  go_simp
                  with_reducible rfl
                rotate_left
                · simp only [Act.put, List.setIfInBounds_toArray, List.set_cons_zero, List.set_cons_succ, i64_w, i32_w]
                  rfl
                refine take_ (i := 7) (N := some 24) (v := ?_) (a' := ?_) #[true, true, true, true, true, true, true, true, false, false] rfl rfl (take_ofW HT_.out HW_.out (by kernel_rfl)) (fun _ _ _ h => h) (Or.inl ⟨by rfl, ?_⟩) hHeld ?_ ?_
                rotate_left
                · rintro w' ⟨s0, s1, s2, s3, s4, s5, s6, s7⟩
                  go_simp
                  with_reducible rfl
                rotate_left
                · simp only [Act.put, List.setIfInBounds_toArray, List.set_cons_zero, List.set_cons_succ, i64_w, i32_w]
                  rfl
                refine one_ (i := 8) (N := some 25) #[true, true, true, true, true, true, true, true, true, false] rfl rfl (one_of HT_.out (by kernel_rfl)) (by decide) (fun K hK => ?_)
                refine goes_ Try.func84 (by kernel_rfl) rfl #[.agg #[.int .i64 ((rd_T60 l0 x5_1).f0), .int .i64 ((rd_T60 l0 x5_1).f1), .string ((rd_T60 l0 x5_1).f2), .string ((rd_T60 l0 x5_1).f3)], .agg #[.int .i64 ((rd_T60 l1 x5_1).f0), .int .i64 ((rd_T60 l1 x5_1).f1), .string ((rd_T60 l1 x5_1).f2), .string ((rd_T60 l1 x5_1).f3)]] (by rfl) rfl rfl (by (try simp only [List.map_toArray, List.map_cons, List.map_nil]); first | done | rfl | (simp only [List.length_drop, List.length_take]; rfl)) ?_
                with_reducible refine (laws_eqAtom.calls ((rd_T60 l0 x5_1).f0) ((rd_T60 l0 x5_1).f1) ((rd_T60 l0 x5_1).f2) ((rd_T60 l0 x5_1).f3) ((rd_T60 l1 x5_1).f0) ((rd_T60 l1 x5_1).f1) ((rd_T60 l1 x5_1).f2) ((rd_T60 l1 x5_1).f3) false _ A7.out).mono ?_
                rintro e w12 ⟨rfl, hb⟩
                refine ⟨_, rfl, ?_⟩
                have n0_ := Aside0.mk (below_step (by repeat (first | (with_reducible first | exact HB.out | apply below_alloc | apply pw_below_drewN | apply below_drew1) | exact HB.out)) hb)
                clear HB
                have HB := n0_
                clear n0_
                (try clear hb)
                (try clear hb2)
                (try clear hk)
                (try clear hi)
                refine hK.out _ _ ⟨((HB.out.cell (World.block_lt_of_cell? w _ hw221_0)).trans hw221_0), ((HB.out.cell (World.block_lt_of_cell? w _ hw221_1)).trans hw221_1), ((HB.out.cell (World.block_lt_of_cell? w _ hw221_2)).trans hw221_2), ((HB.out.cell (World.block_lt_of_cell? w _ hw221_3)).trans hw221_3), ((HB.out.cell (World.block_lt_of_cell? w _ hw222_0)).trans hw222_0), ((HB.out.cell (World.block_lt_of_cell? w _ hw222_1)).trans hw222_1), ((HB.out.cell (World.block_lt_of_cell? w _ hw222_2)).trans hw222_2), ((HB.out.cell (World.block_lt_of_cell? w _ hw222_3)).trans hw222_3)⟩ (fun hHeld => ?_)
                clear hK K
                refine norm_ (a' := ?_) ?_ ?_
                rotate_left
                · show Act.put _ (some 25) _ = _
                  simp only [Act.put, List.setIfInBounds_toArray, List.set_cons_zero, List.set_cons_succ, i64_w, i32_w]
                  rfl
                refine pure_ (i := 9) (N := some 26) (v := ?_) (a' := ?_) #[true, true, true, true, true, true, true, true, true, true] rfl rfl (any_of HT_.out (by kernel_rfl)) (fun _ _ _ h => h) (Or.inl ⟨by rfl, ?_⟩) ?_ ?_
                rotate_left
                · intro w'
                  go_simp
                  with_reducible rfl
                rotate_left
                · simp only [Act.put, List.setIfInBounds_toArray, List.set_cons_zero, List.set_cons_succ, i64_w, i32_w]
                  rfl
                refine done_ (done_of HT_.out (by kernel_rfl)) ?_
                try go_wp2
                go_ret
                exact ⟨by first | rfl | (simp [errW_none, errW_some] <;> rfl) | (simp [*, errW_none, errW_some] <;> rfl), by repeat (first | (with_reducible first | exact HB.out | apply below_alloc | apply pw_below_drewN | apply below_drew1) | exact HB.out)⟩
            · rw [if_neg c6] at H
              exact absurd H (by simp)
          · rw [if_neg c5] at H
            exact absurd H (by simp)
        · rw [if_neg c4] at H
          have c4b0 : decide (x5_1 < (l0.length : Int)) = false := decide_eq_false c4
          clear c4
          obtain rfl := Option.some.inj H
          go_wp2
          go_ret
          exact ⟨by first | rfl | (simp [errW_none, errW_some] <;> rfl) | (simp [*, errW_none, errW_some] <;> rfl), by repeat (first | (with_reducible first | exact HB.out | apply below_alloc | apply pw_below_drewN | apply below_drew1) | exact HB.out)⟩
  · rw [if_neg c3] at H
    have c3b0 : ((l0.length : Int) == (l1.length : Int)) = false := beq_eq_false_iff_ne.mpr c3
    have c3b1 : ((l0.length : Int) != (l1.length : Int)) = true := bne_iff_ne.mpr c3
    have c3b2 : (l0.length == l1.length) = false := by first | simpa using c3 | (simp at c3 ⊢; omega)
    obtain rfl := Option.some.inj H
    go_enter Try.func85, Try.ntmps85
    go_wp2
    go_ret
    exact ⟨by first | rfl | (simp [errW_none, errW_some] <;> rfl) | (simp [*, errW_none, errW_some] <;> rfl), by repeat (first | (with_reducible first | exact HB.out | apply below_alloc | apply pw_below_drewN | apply below_drew1) | exact HB.out)⟩

/-! ### laws_eqValue: function 31 -/
def laws_eqValue.f (k : Nat) (a0_0 : Int) (a0_1 : Int) (a0_2 : Int) (a0_3 : ByteArray) (a0_4 : ByteArray) (l0_5 : List (S60)) (l0_6 : List ByteArray) (a1_0 : Int) (a1_1 : Int) (a1_2 : Int) (a1_3 : ByteArray) (a1_4 : ByteArray) (l1_5 : List (S60)) (l1_6 : List ByteArray) : Option (Bool) := if a0_0 = a1_0 then ((laws_eqAtom.f a0_1 a0_2 a0_3 a0_4 a1_1 a1_2 a1_3 a1_4).bind fun t226 => (if t226 = true then ((laws_eqAtomS.f k l0_5 l1_5).bind fun t227 => (if t227 = true then ((laws_eqStringS.f k l0_6 l1_6).bind fun t228 => (if t228 = true then (some true) else (some false))) else (some false))) else (some false))) else (some false)
theorem laws_eqValue.mono : ∀ a0 a1 a2 a3 a4 a5 a6 a7 a8 a9 a10 a11 a12 a13 k, LeO (laws_eqValue.f k a0 a1 a2 a3 a4 a5 a6 a7 a8 a9 a10 a11 a12 a13) (laws_eqValue.f (k + 1) a0 a1 a2 a3 a4 a5 a6 a7 a8 a9 a10 a11 a12 a13) := by
  intro a0 a1 a2 a3 a4 a5 a6 a7 a8 a9 a10 a11 a12 a13 k
  unfold laws_eqValue.f
  repeat' first
      | (with_reducible exact laws_eqAtomS.mono _ _ _)
      | (with_reducible exact laws_eqStringS.mono _ _ _)
      | (with_reducible exact LeO.refl _)
      | (with_reducible exact LeO.none _)
      | (with_reducible refine LeO.ite ?_ ?_)
      | (with_reducible refine LeO.bind ?_ (fun _ => ?_))
      | exact laws_eqAtomS.mono _ _ _
      | exact laws_eqStringS.mono _ _ _
      | exact LeO.none _
      | refine LeO.ite ?_ ?_
      | refine LeO.bind ?_ (fun _ => ?_)
set_option maxHeartbeats 8000000 in
set_option maxRecDepth 100000 in
theorem laws_eqValue.calls (k : Nat) (a0_0 : Int) (a0_1 : Int) (a0_2 : Int) (a0_3 : ByteArray) (a0_4 : ByteArray) (A0_5 : Option Addr) (c0_5 : Nat) (l0_5 : List (S60)) (A0_6 : Option Addr) (c0_6 : Nat) (l0_6 : List ByteArray) (a1_0 : Int) (a1_1 : Int) (a1_2 : Int) (a1_3 : ByteArray) (a1_4 : ByteArray) (A1_5 : Option Addr) (c1_5 : Nat) (l1_5 : List (S60)) (A1_6 : Option Addr) (c1_6 : Nat) (l1_6 : List ByteArray) (r : Bool) (w : World) (hr0_5 : Kd.C k60 w A0_5 l0_5.length l0_5) (hc0_5 : l0_5.length ≤ c0_5) (hr0_6 : Kd.C Kd.string w A0_6 l0_6.length l0_6) (hc0_6 : l0_6.length ≤ c0_6) (hr1_5 : Kd.C k60 w A1_5 l1_5.length l1_5) (hc1_5 : l1_5.length ≤ c1_5) (hr1_6 : Kd.C Kd.string w A1_6 l1_6.length l1_6) (hc1_6 : l1_6.length ≤ c1_6) (h : laws_eqValue.f k a0_0 a0_1 a0_2 a0_3 a0_4 l0_5 l0_6 a1_0 a1_1 a1_2 a1_3 a1_4 l1_5 l1_6 = some r) :
    Calls Try.prog 31 #[.agg #[.int .i64 a0_0, .int .i64 a0_1, .int .i64 a0_2, .string a0_3, .string a0_4, .slice A0_5 l0_5.length c0_5, .slice A0_6 l0_6.length c0_6], .agg #[.int .i64 a1_0, .int .i64 a1_1, .int .i64 a1_2, .string a1_3, .string a1_4, .slice A1_5 l1_5.length c1_5, .slice A1_6 l1_6.length c1_6]] w fun e w' => e = .returned (.bool r) ∧ Below w.heap.size w w' := by
  have hu63 := Try.underlying63
  have hu60 := Try.underlying60
  have HR0_5 := Aside0.mk hr0_5
  have HC0_5 := Aside0.mk hc0_5
  clear hr0_5 hc0_5
  have HR0_6 := Aside0.mk hr0_6
  have HC0_6 := Aside0.mk hc0_6
  clear hr0_6 hc0_6
  have HR1_5 := Aside0.mk hr1_5
  have HC1_5 := Aside0.mk hc1_5
  clear hr1_5 hc1_5
  have HR1_6 := Aside0.mk hr1_6
  have HC1_6 := Aside0.mk hc1_6
  clear hr1_6 hc1_6
  have HB := Aside0.mk (Below.refl w.heap.size w)
  have H : (if a0_0 = a1_0 then ((laws_eqAtom.f a0_1 a0_2 a0_3 a0_4 a1_1 a1_2 a1_3 a1_4).bind fun t226 => (if t226 = true then ((laws_eqAtomS.f k l0_5 l1_5).bind fun t227 => (if t227 = true then ((laws_eqStringS.f k l0_6 l1_6).bind fun t228 => (if t228 = true then (some true) else (some false))) else (some false))) else (some false))) else (some false)) = some r := h
  clear h
  by_cases c3 : a0_0 = a1_0
  · rw [if_pos c3] at H
    have c3b0 : (a0_0 == a1_0) = true := beq_iff_eq.mpr c3
    have c3b1 : (a0_0 != a1_0) = false := bne_eq_false_iff_eq.mpr c3
    clear c3
    replace H := Option.bind_eq_some_iff.mp H
    obtain ⟨t226, A40, H⟩ := H
    replace H : (if t226 = true then ((laws_eqAtomS.f k l0_5 l1_5).bind fun t227 => (if t227 = true then ((laws_eqStringS.f k l0_6 l1_6).bind fun t228 => (if t228 = true then (some true) else (some false))) else (some false))) else (some false)) = some r := H
    have A4 := Aside0.mk A40
    clear A40
    by_cases c5 : t226 = true
    · subst c5
      have H1 : ((laws_eqAtomS.f k l0_5 l1_5).bind fun t227 => (if t227 = true then ((laws_eqStringS.f k l0_6 l1_6).bind fun t228 => (if t228 = true then (some true) else (some false))) else (some false))) = some r := by rw [if_pos rfl] at H; exact H
      clear H
      have H := H1
      clear H1
      replace H := Option.bind_eq_some_iff.mp H
      obtain ⟨t227, A60, H⟩ := H
      replace H : (if t227 = true then ((laws_eqStringS.f k l0_6 l1_6).bind fun t228 => (if t228 = true then (some true) else (some false))) else (some false)) = some r := H
      have A6 := Aside0.mk A60
      clear A60
      by_cases c7 : t227 = true
      · subst c7
        have H1 : ((laws_eqStringS.f k l0_6 l1_6).bind fun t228 => (if t228 = true then (some true) else (some false))) = some r := by rw [if_pos rfl] at H; exact H
        clear H
        have H := H1
        clear H1
        replace H := Option.bind_eq_some_iff.mp H
        obtain ⟨t228, A80, H⟩ := H
        replace H : (if t228 = true then (some true) else (some false)) = some r := H
        have A8 := Aside0.mk A80
        clear A80
        by_cases c9 : t228 = true
        · subst c9
          have H1 : (some true) = some r := by rw [if_pos rfl] at H; exact H
          clear H
          have H := H1
          clear H1
          obtain rfl := Option.some.inj H
          go_enter Try.func31, Try.ntmps31
          go_wp2_with (first | ((with_reducible refine gate_dst (N := 2) rfl ?_); refine box_event ?hg (N := 2) ?hd (cs := #[.int .i64 a0_0, .int .i64 a0_1, .int .i64 a0_2, .string a0_3, .string a0_4, .slice A0_5 l0_5.length c0_5, .slice A0_6 l0_6.length c0_6]) (t := 63) ?hr ?_; (case hd => rfl); (case hg => rfl); (case hr => first | (go_simp; done) | (go_simp; rfl)); intro gb224 hg w10 hbox hb; have n0_ := Aside0.mk (below_step (by repeat (first | (with_reducible first | exact HB.out | apply below_alloc | apply pw_below_drewN | apply below_drew1) | exact HB.out)) hb); have n1_ := Aside0.mk (hbox); have n2_ := Aside0.mk ((by rw [hg]; exact (below_size (by repeat (first | (with_reducible first | exact HB.out | apply below_alloc | apply pw_below_drewN | apply below_drew1) | exact HB.out))) : w.heap.size ≤ gb224)); have n3_ := Aside0.mk ((by rw [hg]; exact (below_size (by repeat (first | (with_reducible first | exact HB.out | apply below_alloc | apply pw_below_drewN | apply below_drew1) | exact HB.out))) : w.heap.size ≤ gb224)); clear HB; have HB := n0_; have BK224 := n1_; have GW224 := n2_; have GE224 := n3_; clear n0_ n1_ n2_ n3_; clear hb hbox hg) | ((with_reducible refine gate_dst (N := 3) rfl ?_); refine box_event ?hg (N := 3) ?hd (cs := #[.int .i64 a1_0, .int .i64 a1_1, .int .i64 a1_2, .string a1_3, .string a1_4, .slice A1_5 l1_5.length c1_5, .slice A1_6 l1_6.length c1_6]) (t := 63) ?hr ?_; (case hd => rfl); (case hg => rfl); (case hr => first | (go_simp; done) | (go_simp; rfl)); intro gb225 hg w11 hbox hb; have n0_ := Aside0.mk (blk_below (g := gb224) (o := .cells #[.int .i64 a0_0, .int .i64 a0_1, .int .i64 a0_2, .string a0_3, .string a0_4, .slice A0_5 l0_5.length c0_5, .slice A0_6 l0_6.length c0_6] 63 (0, 0)) (by (with_reducible repeat (first | refine blk_drewN ?_ _ | refine blk_drew ?_ | refine blk_alloc ?_ _)); exact BK224.out) hb); have n1_ := Aside0.mk (below_step (by repeat (first | (with_reducible first | exact HB.out | apply below_alloc | apply pw_below_drewN | apply below_drew1 | refine below_set ?_ GE224.out) | exact HB.out)) hb); have n2_ := Aside0.mk (hbox); have n3_ := Aside0.mk ((by rw [hg]; exact (below_size (by repeat (first | (with_reducible first | exact HB.out | apply below_alloc | apply pw_below_drewN | apply below_drew1 | refine below_set ?_ GE224.out) | exact HB.out))) : w.heap.size ≤ gb225)); have n4_ := Aside0.mk ((by rw [hg]; exact (below_size (by repeat (first | (with_reducible first | exact HB.out | apply below_alloc | apply pw_below_drewN | apply below_drew1 | refine below_set ?_ GE224.out) | exact HB.out))) : w.heap.size ≤ gb225)); have n5_ := Aside0.mk ((by rw [hg]; exact Nat.ne_of_lt (blk_lt (g := gb224) (o := .cells #[.int .i64 a0_0, .int .i64 a0_1, .int .i64 a0_2, .string a0_3, .string a0_4, .slice A0_5 l0_5.length c0_5, .slice A0_6 l0_6.length c0_6] 63 (0, 0)) (by (with_reducible repeat (first | refine blk_drewN ?_ _ | refine blk_drew ?_ | refine blk_alloc ?_ _)); exact BK224.out)) : gb224 ≠ gb225)); have n6_ := Aside0.mk ((by rw [hg]; exact Nat.ne_of_gt (blk_lt (g := gb224) (o := .cells #[.int .i64 a0_0, .int .i64 a0_1, .int .i64 a0_2, .string a0_3, .string a0_4, .slice A0_5 l0_5.length c0_5, .slice A0_6 l0_6.length c0_6] 63 (0, 0)) (by (with_reducible repeat (first | refine blk_drewN ?_ _ | refine blk_drew ?_ | refine blk_alloc ?_ _)); exact BK224.out)) : gb225 ≠ gb224)); clear BK224; clear HB; have BK224 := n0_; have HB := n1_; have BK225 := n2_; have GW225 := n3_; have GE225 := n4_; have NB224_225 := n5_; have NB225_224 := n6_; clear n0_ n1_ n2_ n3_ n4_ n5_ n6_; clear hb hbox hg; have hnb12 := NB224_225.out; have hnc12 := NB225_224.out; have hcz13_0 : w11.cell? ⟨gb224, 0, none⟩ = some (.int .i64 a0_0) := (blk_cell BK224.out 0).trans rfl; have hcz13_1 : w11.cell? ⟨gb224, 1, none⟩ = some (.int .i64 a0_1) := (blk_cell BK224.out 1).trans rfl; have hcz13_2 : w11.cell? ⟨gb224, 2, none⟩ = some (.int .i64 a0_2) := (blk_cell BK224.out 2).trans rfl; have hcz13_3 : w11.cell? ⟨gb224, 3, none⟩ = some (.string a0_3) := (blk_cell BK224.out 3).trans rfl; have hcz13_4 : w11.cell? ⟨gb224, 4, none⟩ = some (.string a0_4) := (blk_cell BK224.out 4).trans rfl; have hcz13_5 : w11.cell? ⟨gb224, 5, none⟩ = some (.slice A0_5 l0_5.length c0_5) := (blk_cell BK224.out 5).trans rfl; have hcz13_6 : w11.cell? ⟨gb224, 6, none⟩ = some (.slice A0_6 l0_6.length c0_6) := (blk_cell BK224.out 6).trans rfl; have hfz13_0 := blk_frozen BK224.out 0; have hfz13_1 := blk_frozen BK224.out 1; have hfz13_2 := blk_frozen BK224.out 2; have hfz13_3 := blk_frozen BK224.out 3; have hfz13_4 := blk_frozen BK224.out 4; have hfz13_5 := blk_frozen BK224.out 5; have hfz13_6 := blk_frozen BK224.out 6; have hcz14_0 : w11.cell? ⟨gb225, 0, none⟩ = some (.int .i64 a1_0) := (blk_cell BK225.out 0).trans rfl; have hcz14_1 : w11.cell? ⟨gb225, 1, none⟩ = some (.int .i64 a1_1) := (blk_cell BK225.out 1).trans rfl; have hcz14_2 : w11.cell? ⟨gb225, 2, none⟩ = some (.int .i64 a1_2) := (blk_cell BK225.out 2).trans rfl; have hcz14_3 : w11.cell? ⟨gb225, 3, none⟩ = some (.string a1_3) := (blk_cell BK225.out 3).trans rfl; have hcz14_4 : w11.cell? ⟨gb225, 4, none⟩ = some (.string a1_4) := (blk_cell BK225.out 4).trans rfl; have hcz14_5 : w11.cell? ⟨gb225, 5, none⟩ = some (.slice A1_5 l1_5.length c1_5) := (blk_cell BK225.out 5).trans rfl; have hcz14_6 : w11.cell? ⟨gb225, 6, none⟩ = some (.slice A1_6 l1_6.length c1_6) := (blk_cell BK225.out 6).trans rfl; have hfz14_0 := blk_frozen BK225.out 0; have hfz14_1 := blk_frozen BK225.out 1; have hfz14_2 := blk_frozen BK225.out 2; have hfz14_3 := blk_frozen BK225.out 3; have hfz14_4 := blk_frozen BK225.out 4; have hfz14_5 := blk_frozen BK225.out 5; have hfz14_6 := blk_frozen BK225.out 6) | ((with_reducible refine gate_callee (f := 84) rfl ?_); refine goesL_ (some 14) rfl rfl Try.func84 (by kernel_rfl) rfl #[.agg #[.int .i64 a0_1, .int .i64 a0_2, .string a0_3, .string a0_4], .agg #[.int .i64 a1_1, .int .i64 a1_2, .string a1_3, .string a1_4]] rfl (by (try simp only [List.map_toArray, List.map_cons, List.map_nil]); first | done | rfl | (simp only [List.length_drop, List.length_take]; rfl)) ?_; (with_reducible refine (laws_eqAtom.calls a0_1 a0_2 a0_3 a0_4 a1_1 a1_2 a1_3 a1_4 true _ A4.out).mono ?_); rintro e w15 ⟨rfl, hb⟩; refine ⟨_, rfl, ?_⟩; have n0_ := Aside0.mk (blk_below (g := gb224) (o := .cells #[.int .i64 a0_0, .int .i64 a0_1, .int .i64 a0_2, .string a0_3, .string a0_4, .slice A0_5 l0_5.length c0_5, .slice A0_6 l0_6.length c0_6] 63 (0, 0)) (by (with_reducible repeat (first | refine blk_drewN ?_ _ | refine blk_drew ?_ | refine blk_alloc ?_ _)); exact BK224.out) hb); have n1_ := Aside0.mk (blk_below (g := gb225) (o := .cells #[.int .i64 a1_0, .int .i64 a1_1, .int .i64 a1_2, .string a1_3, .string a1_4, .slice A1_5 l1_5.length c1_5, .slice A1_6 l1_6.length c1_6] 63 (0, 0)) (by (with_reducible repeat (first | refine blk_drewN ?_ _ | refine blk_drew ?_ | refine blk_alloc ?_ _)); exact BK225.out) hb); have n2_ := Aside0.mk (below_step (by repeat (first | (with_reducible first | exact HB.out | apply below_alloc | apply pw_below_drewN | apply below_drew1 | refine below_set ?_ GE224.out | refine below_set ?_ GE225.out) | exact HB.out)) hb); clear BK224; clear BK225; clear HB; have BK224 := n0_; have BK225 := n1_; have HB := n2_; clear n0_ n1_ n2_; (try clear hb); (try clear hb2); (try clear hk); (try clear hi); have hcz16_0 : w15.cell? ⟨gb224, 0, none⟩ = some (.int .i64 a0_0) := (blk_cell BK224.out 0).trans rfl; have hcz16_1 : w15.cell? ⟨gb224, 1, none⟩ = some (.int .i64 a0_1) := (blk_cell BK224.out 1).trans rfl; have hcz16_2 : w15.cell? ⟨gb224, 2, none⟩ = some (.int .i64 a0_2) := (blk_cell BK224.out 2).trans rfl; have hcz16_3 : w15.cell? ⟨gb224, 3, none⟩ = some (.string a0_3) := (blk_cell BK224.out 3).trans rfl; have hcz16_4 : w15.cell? ⟨gb224, 4, none⟩ = some (.string a0_4) := (blk_cell BK224.out 4).trans rfl; have hcz16_5 : w15.cell? ⟨gb224, 5, none⟩ = some (.slice A0_5 l0_5.length c0_5) := (blk_cell BK224.out 5).trans rfl; have hcz16_6 : w15.cell? ⟨gb224, 6, none⟩ = some (.slice A0_6 l0_6.length c0_6) := (blk_cell BK224.out 6).trans rfl; have hfz16_0 := blk_frozen BK224.out 0; have hfz16_1 := blk_frozen BK224.out 1; have hfz16_2 := blk_frozen BK224.out 2; have hfz16_3 := blk_frozen BK224.out 3; have hfz16_4 := blk_frozen BK224.out 4; have hfz16_5 := blk_frozen BK224.out 5; have hfz16_6 := blk_frozen BK224.out 6; have hcz17_0 : w15.cell? ⟨gb225, 0, none⟩ = some (.int .i64 a1_0) := (blk_cell BK225.out 0).trans rfl; have hcz17_1 : w15.cell? ⟨gb225, 1, none⟩ = some (.int .i64 a1_1) := (blk_cell BK225.out 1).trans rfl; have hcz17_2 : w15.cell? ⟨gb225, 2, none⟩ = some (.int .i64 a1_2) := (blk_cell BK225.out 2).trans rfl; have hcz17_3 : w15.cell? ⟨gb225, 3, none⟩ = some (.string a1_3) := (blk_cell BK225.out 3).trans rfl; have hcz17_4 : w15.cell? ⟨gb225, 4, none⟩ = some (.string a1_4) := (blk_cell BK225.out 4).trans rfl; have hcz17_5 : w15.cell? ⟨gb225, 5, none⟩ = some (.slice A1_5 l1_5.length c1_5) := (blk_cell BK225.out 5).trans rfl; have hcz17_6 : w15.cell? ⟨gb225, 6, none⟩ = some (.slice A1_6 l1_6.length c1_6) := (blk_cell BK225.out 6).trans rfl; have hfz17_0 := blk_frozen BK225.out 0; have hfz17_1 := blk_frozen BK225.out 1; have hfz17_2 := blk_frozen BK225.out 2; have hfz17_3 := blk_frozen BK225.out 3; have hfz17_4 := blk_frozen BK225.out 4; have hfz17_5 := blk_frozen BK225.out 5; have hfz17_6 := blk_frozen BK225.out 6) | ((with_reducible refine gate_callee (f := 85) rfl ?_); refine goesL_ (some 20) rfl rfl Try.func85 (by kernel_rfl) rfl #[.slice A0_5 l0_5.length c0_5, .slice A1_5 l1_5.length c1_5] rfl (by (try simp only [List.map_toArray, List.map_cons, List.map_nil]); first | done | rfl | (simp only [List.length_drop, List.length_take]; rfl)) ?_; (with_reducible refine (laws_eqAtomS.calls k _ _ l0_5 _ _ l1_5 true _ ?side1 ?side2 ?side3 ?side4 A6.out).mono ?_); (case side1 => repeat (first | exact (Kd.C_below HR0_5.out HB.out) | (with_reducible refine Kd.C_alloc ?_ _) | (with_reducible refine Kd.C_drewN ?_ _) | (with_reducible refine Kd.C_drew ?_))); (case side2 => exact HC0_5.out); (case side3 => repeat (first | exact (Kd.C_below HR1_5.out HB.out) | (with_reducible refine Kd.C_alloc ?_ _) | (with_reducible refine Kd.C_drewN ?_ _) | (with_reducible refine Kd.C_drew ?_))); (case side4 => exact HC1_5.out); rintro e w18 ⟨rfl, hb⟩; refine ⟨_, rfl, ?_⟩; have n0_ := Aside0.mk (blk_below (g := gb224) (o := .cells #[.int .i64 a0_0, .int .i64 a0_1, .int .i64 a0_2, .string a0_3, .string a0_4, .slice A0_5 l0_5.length c0_5, .slice A0_6 l0_6.length c0_6] 63 (0, 0)) (by (with_reducible repeat (first | refine blk_drewN ?_ _ | refine blk_drew ?_ | refine blk_alloc ?_ _)); exact BK224.out) hb); have n1_ := Aside0.mk (blk_below (g := gb225) (o := .cells #[.int .i64 a1_0, .int .i64 a1_1, .int .i64 a1_2, .string a1_3, .string a1_4, .slice A1_5 l1_5.length c1_5, .slice A1_6 l1_6.length c1_6] 63 (0, 0)) (by (with_reducible repeat (first | refine blk_drewN ?_ _ | refine blk_drew ?_ | refine blk_alloc ?_ _)); exact BK225.out) hb); have n2_ := Aside0.mk (below_step (by repeat (first | (with_reducible first | exact HB.out | apply below_alloc | apply pw_below_drewN | apply below_drew1 | refine below_set ?_ GE224.out | refine below_set ?_ GE225.out) | exact HB.out)) hb); clear BK224; clear BK225; clear HB; have BK224 := n0_; have BK225 := n1_; have HB := n2_; clear n0_ n1_ n2_; (try clear hb); (try clear hb2); (try clear hk); (try clear hi); have hcz19_0 : w18.cell? ⟨gb224, 0, none⟩ = some (.int .i64 a0_0) := (blk_cell BK224.out 0).trans rfl; have hcz19_1 : w18.cell? ⟨gb224, 1, none⟩ = some (.int .i64 a0_1) := (blk_cell BK224.out 1).trans rfl; have hcz19_2 : w18.cell? ⟨gb224, 2, none⟩ = some (.int .i64 a0_2) := (blk_cell BK224.out 2).trans rfl; have hcz19_3 : w18.cell? ⟨gb224, 3, none⟩ = some (.string a0_3) := (blk_cell BK224.out 3).trans rfl; have hcz19_4 : w18.cell? ⟨gb224, 4, none⟩ = some (.string a0_4) := (blk_cell BK224.out 4).trans rfl; have hcz19_5 : w18.cell? ⟨gb224, 5, none⟩ = some (.slice A0_5 l0_5.length c0_5) := (blk_cell BK224.out 5).trans rfl; have hcz19_6 : w18.cell? ⟨gb224, 6, none⟩ = some (.slice A0_6 l0_6.length c0_6) := (blk_cell BK224.out 6).trans rfl; have hfz19_0 := blk_frozen BK224.out 0; have hfz19_1 := blk_frozen BK224.out 1; have hfz19_2 := blk_frozen BK224.out 2; have hfz19_3 := blk_frozen BK224.out 3; have hfz19_4 := blk_frozen BK224.out 4; have hfz19_5 := blk_frozen BK224.out 5; have hfz19_6 := blk_frozen BK224.out 6; have hcz20_0 : w18.cell? ⟨gb225, 0, none⟩ = some (.int .i64 a1_0) := (blk_cell BK225.out 0).trans rfl; have hcz20_1 : w18.cell? ⟨gb225, 1, none⟩ = some (.int .i64 a1_1) := (blk_cell BK225.out 1).trans rfl; have hcz20_2 : w18.cell? ⟨gb225, 2, none⟩ = some (.int .i64 a1_2) := (blk_cell BK225.out 2).trans rfl; have hcz20_3 : w18.cell? ⟨gb225, 3, none⟩ = some (.string a1_3) := (blk_cell BK225.out 3).trans rfl; have hcz20_4 : w18.cell? ⟨gb225, 4, none⟩ = some (.string a1_4) := (blk_cell BK225.out 4).trans rfl; have hcz20_5 : w18.cell? ⟨gb225, 5, none⟩ = some (.slice A1_5 l1_5.length c1_5) := (blk_cell BK225.out 5).trans rfl; have hcz20_6 : w18.cell? ⟨gb225, 6, none⟩ = some (.slice A1_6 l1_6.length c1_6) := (blk_cell BK225.out 6).trans rfl; have hfz20_0 := blk_frozen BK225.out 0; have hfz20_1 := blk_frozen BK225.out 1; have hfz20_2 := blk_frozen BK225.out 2; have hfz20_3 := blk_frozen BK225.out 3; have hfz20_4 := blk_frozen BK225.out 4; have hfz20_5 := blk_frozen BK225.out 5; have hfz20_6 := blk_frozen BK225.out 6) | ((with_reducible refine gate_callee (f := 17) rfl ?_); refine goesL_ (some 26) rfl rfl Try.func17 (by kernel_rfl) rfl #[.slice A0_6 l0_6.length c0_6, .slice A1_6 l1_6.length c1_6] rfl (by (try simp only [List.map_toArray, List.map_cons, List.map_nil]); first | done | rfl | (simp only [List.length_drop, List.length_take]; rfl)) ?_; (with_reducible refine (laws_eqStringS.calls k _ _ l0_6 _ _ l1_6 true _ ?side1 ?side2 ?side3 ?side4 A8.out).mono ?_); (case side1 => repeat (first | exact (Kd.C_below HR0_6.out HB.out) | (with_reducible refine Kd.C_alloc ?_ _) | (with_reducible refine Kd.C_drewN ?_ _) | (with_reducible refine Kd.C_drew ?_))); (case side2 => exact HC0_6.out); (case side3 => repeat (first | exact (Kd.C_below HR1_6.out HB.out) | (with_reducible refine Kd.C_alloc ?_ _) | (with_reducible refine Kd.C_drewN ?_ _) | (with_reducible refine Kd.C_drew ?_))); (case side4 => exact HC1_6.out); rintro e w' ⟨rfl, ⟨nd, rfl⟩⟩; refine ⟨_, rfl, ?_⟩))
          go_ret
          exact ⟨by first | rfl | (simp [errW_none, errW_some] <;> rfl) | (simp [*, errW_none, errW_some] <;> rfl), by repeat (first | (with_reducible first | exact HB.out | apply below_alloc | apply pw_below_drewN | apply below_drew1 | refine below_set ?_ GE224.out | refine below_set ?_ GE225.out) | exact HB.out)⟩
        · replace c9 := Bool.eq_false_iff.mpr c9
          subst c9
          have H1 : (some false) = some r := by rw [if_neg (show ¬ (false = true) by decide)] at H; exact H
          clear H
          have H := H1
          clear H1
          obtain rfl := Option.some.inj H
          go_enter Try.func31, Try.ntmps31
          go_wp2_with (first | ((with_reducible refine gate_dst (N := 2) rfl ?_); refine box_event ?hg (N := 2) ?hd (cs := #[.int .i64 a0_0, .int .i64 a0_1, .int .i64 a0_2, .string a0_3, .string a0_4, .slice A0_5 l0_5.length c0_5, .slice A0_6 l0_6.length c0_6]) (t := 63) ?hr ?_; (case hd => rfl); (case hg => rfl); (case hr => first | (go_simp; done) | (go_simp; rfl)); intro gb224 hg w21 hbox hb; have n0_ := Aside0.mk (below_step (by repeat (first | (with_reducible first | exact HB.out | apply below_alloc | apply pw_below_drewN | apply below_drew1) | exact HB.out)) hb); have n1_ := Aside0.mk (hbox); have n2_ := Aside0.mk ((by rw [hg]; exact (below_size (by repeat (first | (with_reducible first | exact HB.out | apply below_alloc | apply pw_below_drewN | apply below_drew1) | exact HB.out))) : w.heap.size ≤ gb224)); have n3_ := Aside0.mk ((by rw [hg]; exact (below_size (by repeat (first | (with_reducible first | exact HB.out | apply below_alloc | apply pw_below_drewN | apply below_drew1) | exact HB.out))) : w.heap.size ≤ gb224)); clear HB; have HB := n0_; have BK224 := n1_; have GW224 := n2_; have GE224 := n3_; clear n0_ n1_ n2_ n3_; clear hb hbox hg) | ((with_reducible refine gate_dst (N := 3) rfl ?_); refine box_event ?hg (N := 3) ?hd (cs := #[.int .i64 a1_0, .int .i64 a1_1, .int .i64 a1_2, .string a1_3, .string a1_4, .slice A1_5 l1_5.length c1_5, .slice A1_6 l1_6.length c1_6]) (t := 63) ?hr ?_; (case hd => rfl); (case hg => rfl); (case hr => first | (go_simp; done) | (go_simp; rfl)); intro gb225 hg w22 hbox hb; have n0_ := Aside0.mk (blk_below (g := gb224) (o := .cells #[.int .i64 a0_0, .int .i64 a0_1, .int .i64 a0_2, .string a0_3, .string a0_4, .slice A0_5 l0_5.length c0_5, .slice A0_6 l0_6.length c0_6] 63 (0, 0)) (by (with_reducible repeat (first | refine blk_drewN ?_ _ | refine blk_drew ?_ | refine blk_alloc ?_ _)); exact BK224.out) hb); have n1_ := Aside0.mk (below_step (by repeat (first | (with_reducible first | exact HB.out | apply below_alloc | apply pw_below_drewN | apply below_drew1 | refine below_set ?_ GE224.out) | exact HB.out)) hb); have n2_ := Aside0.mk (hbox); have n3_ := Aside0.mk ((by rw [hg]; exact (below_size (by repeat (first | (with_reducible first | exact HB.out | apply below_alloc | apply pw_below_drewN | apply below_drew1 | refine below_set ?_ GE224.out) | exact HB.out))) : w.heap.size ≤ gb225)); have n4_ := Aside0.mk ((by rw [hg]; exact (below_size (by repeat (first | (with_reducible first | exact HB.out | apply below_alloc | apply pw_below_drewN | apply below_drew1 | refine below_set ?_ GE224.out) | exact HB.out))) : w.heap.size ≤ gb225)); have n5_ := Aside0.mk ((by rw [hg]; exact Nat.ne_of_lt (blk_lt (g := gb224) (o := .cells #[.int .i64 a0_0, .int .i64 a0_1, .int .i64 a0_2, .string a0_3, .string a0_4, .slice A0_5 l0_5.length c0_5, .slice A0_6 l0_6.length c0_6] 63 (0, 0)) (by (with_reducible repeat (first | refine blk_drewN ?_ _ | refine blk_drew ?_ | refine blk_alloc ?_ _)); exact BK224.out)) : gb224 ≠ gb225)); have n6_ := Aside0.mk ((by rw [hg]; exact Nat.ne_of_gt (blk_lt (g := gb224) (o := .cells #[.int .i64 a0_0, .int .i64 a0_1, .int .i64 a0_2, .string a0_3, .string a0_4, .slice A0_5 l0_5.length c0_5, .slice A0_6 l0_6.length c0_6] 63 (0, 0)) (by (with_reducible repeat (first | refine blk_drewN ?_ _ | refine blk_drew ?_ | refine blk_alloc ?_ _)); exact BK224.out)) : gb225 ≠ gb224)); clear BK224; clear HB; have BK224 := n0_; have HB := n1_; have BK225 := n2_; have GW225 := n3_; have GE225 := n4_; have NB224_225 := n5_; have NB225_224 := n6_; clear n0_ n1_ n2_ n3_ n4_ n5_ n6_; clear hb hbox hg; have hnb23 := NB224_225.out; have hnc23 := NB225_224.out; have hcz24_0 : w22.cell? ⟨gb224, 0, none⟩ = some (.int .i64 a0_0) := (blk_cell BK224.out 0).trans rfl; have hcz24_1 : w22.cell? ⟨gb224, 1, none⟩ = some (.int .i64 a0_1) := (blk_cell BK224.out 1).trans rfl; have hcz24_2 : w22.cell? ⟨gb224, 2, none⟩ = some (.int .i64 a0_2) := (blk_cell BK224.out 2).trans rfl; have hcz24_3 : w22.cell? ⟨gb224, 3, none⟩ = some (.string a0_3) := (blk_cell BK224.out 3).trans rfl; have hcz24_4 : w22.cell? ⟨gb224, 4, none⟩ = some (.string a0_4) := (blk_cell BK224.out 4).trans rfl; have hcz24_5 : w22.cell? ⟨gb224, 5, none⟩ = some (.slice A0_5 l0_5.length c0_5) := (blk_cell BK224.out 5).trans rfl; have hcz24_6 : w22.cell? ⟨gb224, 6, none⟩ = some (.slice A0_6 l0_6.length c0_6) := (blk_cell BK224.out 6).trans rfl; have hfz24_0 := blk_frozen BK224.out 0; have hfz24_1 := blk_frozen BK224.out 1; have hfz24_2 := blk_frozen BK224.out 2; have hfz24_3 := blk_frozen BK224.out 3; have hfz24_4 := blk_frozen BK224.out 4; have hfz24_5 := blk_frozen BK224.out 5; have hfz24_6 := blk_frozen BK224.out 6; have hcz25_0 : w22.cell? ⟨gb225, 0, none⟩ = some (.int .i64 a1_0) := (blk_cell BK225.out 0).trans rfl; have hcz25_1 : w22.cell? ⟨gb225, 1, none⟩ = some (.int .i64 a1_1) := (blk_cell BK225.out 1).trans rfl; have hcz25_2 : w22.cell? ⟨gb225, 2, none⟩ = some (.int .i64 a1_2) := (blk_cell BK225.out 2).trans rfl; have hcz25_3 : w22.cell? ⟨gb225, 3, none⟩ = some (.string a1_3) := (blk_cell BK225.out 3).trans rfl; have hcz25_4 : w22.cell? ⟨gb225, 4, none⟩ = some (.string a1_4) := (blk_cell BK225.out 4).trans rfl; have hcz25_5 : w22.cell? ⟨gb225, 5, none⟩ = some (.slice A1_5 l1_5.length c1_5) := (blk_cell BK225.out 5).trans rfl; have hcz25_6 : w22.cell? ⟨gb225, 6, none⟩ = some (.slice A1_6 l1_6.length c1_6) := (blk_cell BK225.out 6).trans rfl; have hfz25_0 := blk_frozen BK225.out 0; have hfz25_1 := blk_frozen BK225.out 1; have hfz25_2 := blk_frozen BK225.out 2; have hfz25_3 := blk_frozen BK225.out 3; have hfz25_4 := blk_frozen BK225.out 4; have hfz25_5 := blk_frozen BK225.out 5; have hfz25_6 := blk_frozen BK225.out 6) | ((with_reducible refine gate_callee (f := 84) rfl ?_); refine goesL_ (some 14) rfl rfl Try.func84 (by kernel_rfl) rfl #[.agg #[.int .i64 a0_1, .int .i64 a0_2, .string a0_3, .string a0_4], .agg #[.int .i64 a1_1, .int .i64 a1_2, .string a1_3, .string a1_4]] rfl (by (try simp only [List.map_toArray, List.map_cons, List.map_nil]); first | done | rfl | (simp only [List.length_drop, List.length_take]; rfl)) ?_; (with_reducible refine (laws_eqAtom.calls a0_1 a0_2 a0_3 a0_4 a1_1 a1_2 a1_3 a1_4 true _ A4.out).mono ?_); rintro e w26 ⟨rfl, hb⟩; refine ⟨_, rfl, ?_⟩; have n0_ := Aside0.mk (blk_below (g := gb224) (o := .cells #[.int .i64 a0_0, .int .i64 a0_1, .int .i64 a0_2, .string a0_3, .string a0_4, .slice A0_5 l0_5.length c0_5, .slice A0_6 l0_6.length c0_6] 63 (0, 0)) (by (with_reducible repeat (first | refine blk_drewN ?_ _ | refine blk_drew ?_ | refine blk_alloc ?_ _)); exact BK224.out) hb); have n1_ := Aside0.mk (blk_below (g := gb225) (o := .cells #[.int .i64 a1_0, .int .i64 a1_1, .int .i64 a1_2, .string a1_3, .string a1_4, .slice A1_5 l1_5.length c1_5, .slice A1_6 l1_6.length c1_6] 63 (0, 0)) (by (with_reducible repeat (first | refine blk_drewN ?_ _ | refine blk_drew ?_ | refine blk_alloc ?_ _)); exact BK225.out) hb); have n2_ := Aside0.mk (below_step (by repeat (first | (with_reducible first | exact HB.out | apply below_alloc | apply pw_below_drewN | apply below_drew1 | refine below_set ?_ GE224.out | refine below_set ?_ GE225.out) | exact HB.out)) hb); clear BK224; clear BK225; clear HB; have BK224 := n0_; have BK225 := n1_; have HB := n2_; clear n0_ n1_ n2_; (try clear hb); (try clear hb2); (try clear hk); (try clear hi); have hcz27_0 : w26.cell? ⟨gb224, 0, none⟩ = some (.int .i64 a0_0) := (blk_cell BK224.out 0).trans rfl; have hcz27_1 : w26.cell? ⟨gb224, 1, none⟩ = some (.int .i64 a0_1) := (blk_cell BK224.out 1).trans rfl; have hcz27_2 : w26.cell? ⟨gb224, 2, none⟩ = some (.int .i64 a0_2) := (blk_cell BK224.out 2).trans rfl; have hcz27_3 : w26.cell? ⟨gb224, 3, none⟩ = some (.string a0_3) := (blk_cell BK224.out 3).trans rfl; have hcz27_4 : w26.cell? ⟨gb224, 4, none⟩ = some (.string a0_4) := (blk_cell BK224.out 4).trans rfl; have hcz27_5 : w26.cell? ⟨gb224, 5, none⟩ = some (.slice A0_5 l0_5.length c0_5) := (blk_cell BK224.out 5).trans rfl; have hcz27_6 : w26.cell? ⟨gb224, 6, none⟩ = some (.slice A0_6 l0_6.length c0_6) := (blk_cell BK224.out 6).trans rfl; have hfz27_0 := blk_frozen BK224.out 0; have hfz27_1 := blk_frozen BK224.out 1; have hfz27_2 := blk_frozen BK224.out 2; have hfz27_3 := blk_frozen BK224.out 3; have hfz27_4 := blk_frozen BK224.out 4; have hfz27_5 := blk_frozen BK224.out 5; have hfz27_6 := blk_frozen BK224.out 6; have hcz28_0 : w26.cell? ⟨gb225, 0, none⟩ = some (.int .i64 a1_0) := (blk_cell BK225.out 0).trans rfl; have hcz28_1 : w26.cell? ⟨gb225, 1, none⟩ = some (.int .i64 a1_1) := (blk_cell BK225.out 1).trans rfl; have hcz28_2 : w26.cell? ⟨gb225, 2, none⟩ = some (.int .i64 a1_2) := (blk_cell BK225.out 2).trans rfl; have hcz28_3 : w26.cell? ⟨gb225, 3, none⟩ = some (.string a1_3) := (blk_cell BK225.out 3).trans rfl; have hcz28_4 : w26.cell? ⟨gb225, 4, none⟩ = some (.string a1_4) := (blk_cell BK225.out 4).trans rfl; have hcz28_5 : w26.cell? ⟨gb225, 5, none⟩ = some (.slice A1_5 l1_5.length c1_5) := (blk_cell BK225.out 5).trans rfl; have hcz28_6 : w26.cell? ⟨gb225, 6, none⟩ = some (.slice A1_6 l1_6.length c1_6) := (blk_cell BK225.out 6).trans rfl; have hfz28_0 := blk_frozen BK225.out 0; have hfz28_1 := blk_frozen BK225.out 1; have hfz28_2 := blk_frozen BK225.out 2; have hfz28_3 := blk_frozen BK225.out 3; have hfz28_4 := blk_frozen BK225.out 4; have hfz28_5 := blk_frozen BK225.out 5; have hfz28_6 := blk_frozen BK225.out 6) | ((with_reducible refine gate_callee (f := 85) rfl ?_); refine goesL_ (some 20) rfl rfl Try.func85 (by kernel_rfl) rfl #[.slice A0_5 l0_5.length c0_5, .slice A1_5 l1_5.length c1_5] rfl (by (try simp only [List.map_toArray, List.map_cons, List.map_nil]); first | done | rfl | (simp only [List.length_drop, List.length_take]; rfl)) ?_; (with_reducible refine (laws_eqAtomS.calls k _ _ l0_5 _ _ l1_5 true _ ?side1 ?side2 ?side3 ?side4 A6.out).mono ?_); (case side1 => repeat (first | exact (Kd.C_below HR0_5.out HB.out) | (with_reducible refine Kd.C_alloc ?_ _) | (with_reducible refine Kd.C_drewN ?_ _) | (with_reducible refine Kd.C_drew ?_))); (case side2 => exact HC0_5.out); (case side3 => repeat (first | exact (Kd.C_below HR1_5.out HB.out) | (with_reducible refine Kd.C_alloc ?_ _) | (with_reducible refine Kd.C_drewN ?_ _) | (with_reducible refine Kd.C_drew ?_))); (case side4 => exact HC1_5.out); rintro e w29 ⟨rfl, hb⟩; refine ⟨_, rfl, ?_⟩; have n0_ := Aside0.mk (blk_below (g := gb224) (o := .cells #[.int .i64 a0_0, .int .i64 a0_1, .int .i64 a0_2, .string a0_3, .string a0_4, .slice A0_5 l0_5.length c0_5, .slice A0_6 l0_6.length c0_6] 63 (0, 0)) (by (with_reducible repeat (first | refine blk_drewN ?_ _ | refine blk_drew ?_ | refine blk_alloc ?_ _)); exact BK224.out) hb); have n1_ := Aside0.mk (blk_below (g := gb225) (o := .cells #[.int .i64 a1_0, .int .i64 a1_1, .int .i64 a1_2, .string a1_3, .string a1_4, .slice A1_5 l1_5.length c1_5, .slice A1_6 l1_6.length c1_6] 63 (0, 0)) (by (with_reducible repeat (first | refine blk_drewN ?_ _ | refine blk_drew ?_ | refine blk_alloc ?_ _)); exact BK225.out) hb); have n2_ := Aside0.mk (below_step (by repeat (first | (with_reducible first | exact HB.out | apply below_alloc | apply pw_below_drewN | apply below_drew1 | refine below_set ?_ GE224.out | refine below_set ?_ GE225.out) | exact HB.out)) hb); clear BK224; clear BK225; clear HB; have BK224 := n0_; have BK225 := n1_; have HB := n2_; clear n0_ n1_ n2_; (try clear hb); (try clear hb2); (try clear hk); (try clear hi); have hcz30_0 : w29.cell? ⟨gb224, 0, none⟩ = some (.int .i64 a0_0) := (blk_cell BK224.out 0).trans rfl; have hcz30_1 : w29.cell? ⟨gb224, 1, none⟩ = some (.int .i64 a0_1) := (blk_cell BK224.out 1).trans rfl; have hcz30_2 : w29.cell? ⟨gb224, 2, none⟩ = some (.int .i64 a0_2) := (blk_cell BK224.out 2).trans rfl; have hcz30_3 : w29.cell? ⟨gb224, 3, none⟩ = some (.string a0_3) := (blk_cell BK224.out 3).trans rfl; have hcz30_4 : w29.cell? ⟨gb224, 4, none⟩ = some (.string a0_4) := (blk_cell BK224.out 4).trans rfl; have hcz30_5 : w29.cell? ⟨gb224, 5, none⟩ = some (.slice A0_5 l0_5.length c0_5) := (blk_cell BK224.out 5).trans rfl; have hcz30_6 : w29.cell? ⟨gb224, 6, none⟩ = some (.slice A0_6 l0_6.length c0_6) := (blk_cell BK224.out 6).trans rfl; have hfz30_0 := blk_frozen BK224.out 0; have hfz30_1 := blk_frozen BK224.out 1; have hfz30_2 := blk_frozen BK224.out 2; have hfz30_3 := blk_frozen BK224.out 3; have hfz30_4 := blk_frozen BK224.out 4; have hfz30_5 := blk_frozen BK224.out 5; have hfz30_6 := blk_frozen BK224.out 6; have hcz31_0 : w29.cell? ⟨gb225, 0, none⟩ = some (.int .i64 a1_0) := (blk_cell BK225.out 0).trans rfl; have hcz31_1 : w29.cell? ⟨gb225, 1, none⟩ = some (.int .i64 a1_1) := (blk_cell BK225.out 1).trans rfl; have hcz31_2 : w29.cell? ⟨gb225, 2, none⟩ = some (.int .i64 a1_2) := (blk_cell BK225.out 2).trans rfl; have hcz31_3 : w29.cell? ⟨gb225, 3, none⟩ = some (.string a1_3) := (blk_cell BK225.out 3).trans rfl; have hcz31_4 : w29.cell? ⟨gb225, 4, none⟩ = some (.string a1_4) := (blk_cell BK225.out 4).trans rfl; have hcz31_5 : w29.cell? ⟨gb225, 5, none⟩ = some (.slice A1_5 l1_5.length c1_5) := (blk_cell BK225.out 5).trans rfl; have hcz31_6 : w29.cell? ⟨gb225, 6, none⟩ = some (.slice A1_6 l1_6.length c1_6) := (blk_cell BK225.out 6).trans rfl; have hfz31_0 := blk_frozen BK225.out 0; have hfz31_1 := blk_frozen BK225.out 1; have hfz31_2 := blk_frozen BK225.out 2; have hfz31_3 := blk_frozen BK225.out 3; have hfz31_4 := blk_frozen BK225.out 4; have hfz31_5 := blk_frozen BK225.out 5; have hfz31_6 := blk_frozen BK225.out 6) | ((with_reducible refine gate_callee (f := 17) rfl ?_); refine goesL_ (some 26) rfl rfl Try.func17 (by kernel_rfl) rfl #[.slice A0_6 l0_6.length c0_6, .slice A1_6 l1_6.length c1_6] rfl (by (try simp only [List.map_toArray, List.map_cons, List.map_nil]); first | done | rfl | (simp only [List.length_drop, List.length_take]; rfl)) ?_; (with_reducible refine (laws_eqStringS.calls k _ _ l0_6 _ _ l1_6 false _ ?side1 ?side2 ?side3 ?side4 A8.out).mono ?_); (case side1 => repeat (first | exact (Kd.C_below HR0_6.out HB.out) | (with_reducible refine Kd.C_alloc ?_ _) | (with_reducible refine Kd.C_drewN ?_ _) | (with_reducible refine Kd.C_drew ?_))); (case side2 => exact HC0_6.out); (case side3 => repeat (first | exact (Kd.C_below HR1_6.out HB.out) | (with_reducible refine Kd.C_alloc ?_ _) | (with_reducible refine Kd.C_drewN ?_ _) | (with_reducible refine Kd.C_drew ?_))); (case side4 => exact HC1_6.out); rintro e w' ⟨rfl, ⟨nd, rfl⟩⟩; refine ⟨_, rfl, ?_⟩))
          go_ret
          exact ⟨by first | rfl | (simp [errW_none, errW_some] <;> rfl) | (simp [*, errW_none, errW_some] <;> rfl), by repeat (first | (with_reducible first | exact HB.out | apply below_alloc | apply pw_below_drewN | apply below_drew1 | refine below_set ?_ GE224.out | refine below_set ?_ GE225.out) | exact HB.out)⟩
      · replace c7 := Bool.eq_false_iff.mpr c7
        subst c7
        have H1 : (some false) = some r := by rw [if_neg (show ¬ (false = true) by decide)] at H; exact H
        clear H
        have H := H1
        clear H1
        obtain rfl := Option.some.inj H
        go_enter Try.func31, Try.ntmps31
        go_wp2_with (first | ((with_reducible refine gate_dst (N := 2) rfl ?_); refine box_event ?hg (N := 2) ?hd (cs := #[.int .i64 a0_0, .int .i64 a0_1, .int .i64 a0_2, .string a0_3, .string a0_4, .slice A0_5 l0_5.length c0_5, .slice A0_6 l0_6.length c0_6]) (t := 63) ?hr ?_; (case hd => rfl); (case hg => rfl); (case hr => first | (go_simp; done) | (go_simp; rfl)); intro gb224 hg w32 hbox hb; have n0_ := Aside0.mk (below_step (by repeat (first | (with_reducible first | exact HB.out | apply below_alloc | apply pw_below_drewN | apply below_drew1) | exact HB.out)) hb); have n1_ := Aside0.mk (hbox); have n2_ := Aside0.mk ((by rw [hg]; exact (below_size (by repeat (first | (with_reducible first | exact HB.out | apply below_alloc | apply pw_below_drewN | apply below_drew1) | exact HB.out))) : w.heap.size ≤ gb224)); have n3_ := Aside0.mk ((by rw [hg]; exact (below_size (by repeat (first | (with_reducible first | exact HB.out | apply below_alloc | apply pw_below_drewN | apply below_drew1) | exact HB.out))) : w.heap.size ≤ gb224)); clear HB; have HB := n0_; have BK224 := n1_; have GW224 := n2_; have GE224 := n3_; clear n0_ n1_ n2_ n3_; clear hb hbox hg) | ((with_reducible refine gate_dst (N := 3) rfl ?_); refine box_event ?hg (N := 3) ?hd (cs := #[.int .i64 a1_0, .int .i64 a1_1, .int .i64 a1_2, .string a1_3, .string a1_4, .slice A1_5 l1_5.length c1_5, .slice A1_6 l1_6.length c1_6]) (t := 63) ?hr ?_; (case hd => rfl); (case hg => rfl); (case hr => first | (go_simp; done) | (go_simp; rfl)); intro gb225 hg w33 hbox hb; have n0_ := Aside0.mk (blk_below (g := gb224) (o := .cells #[.int .i64 a0_0, .int .i64 a0_1, .int .i64 a0_2, .string a0_3, .string a0_4, .slice A0_5 l0_5.length c0_5, .slice A0_6 l0_6.length c0_6] 63 (0, 0)) (by (with_reducible repeat (first | refine blk_drewN ?_ _ | refine blk_drew ?_ | refine blk_alloc ?_ _)); exact BK224.out) hb); have n1_ := Aside0.mk (below_step (by repeat (first | (with_reducible first | exact HB.out | apply below_alloc | apply pw_below_drewN | apply below_drew1 | refine below_set ?_ GE224.out) | exact HB.out)) hb); have n2_ := Aside0.mk (hbox); have n3_ := Aside0.mk ((by rw [hg]; exact (below_size (by repeat (first | (with_reducible first | exact HB.out | apply below_alloc | apply pw_below_drewN | apply below_drew1 | refine below_set ?_ GE224.out) | exact HB.out))) : w.heap.size ≤ gb225)); have n4_ := Aside0.mk ((by rw [hg]; exact (below_size (by repeat (first | (with_reducible first | exact HB.out | apply below_alloc | apply pw_below_drewN | apply below_drew1 | refine below_set ?_ GE224.out) | exact HB.out))) : w.heap.size ≤ gb225)); have n5_ := Aside0.mk ((by rw [hg]; exact Nat.ne_of_lt (blk_lt (g := gb224) (o := .cells #[.int .i64 a0_0, .int .i64 a0_1, .int .i64 a0_2, .string a0_3, .string a0_4, .slice A0_5 l0_5.length c0_5, .slice A0_6 l0_6.length c0_6] 63 (0, 0)) (by (with_reducible repeat (first | refine blk_drewN ?_ _ | refine blk_drew ?_ | refine blk_alloc ?_ _)); exact BK224.out)) : gb224 ≠ gb225)); have n6_ := Aside0.mk ((by rw [hg]; exact Nat.ne_of_gt (blk_lt (g := gb224) (o := .cells #[.int .i64 a0_0, .int .i64 a0_1, .int .i64 a0_2, .string a0_3, .string a0_4, .slice A0_5 l0_5.length c0_5, .slice A0_6 l0_6.length c0_6] 63 (0, 0)) (by (with_reducible repeat (first | refine blk_drewN ?_ _ | refine blk_drew ?_ | refine blk_alloc ?_ _)); exact BK224.out)) : gb225 ≠ gb224)); clear BK224; clear HB; have BK224 := n0_; have HB := n1_; have BK225 := n2_; have GW225 := n3_; have GE225 := n4_; have NB224_225 := n5_; have NB225_224 := n6_; clear n0_ n1_ n2_ n3_ n4_ n5_ n6_; clear hb hbox hg; have hnb34 := NB224_225.out; have hnc34 := NB225_224.out; have hcz35_0 : w33.cell? ⟨gb224, 0, none⟩ = some (.int .i64 a0_0) := (blk_cell BK224.out 0).trans rfl; have hcz35_1 : w33.cell? ⟨gb224, 1, none⟩ = some (.int .i64 a0_1) := (blk_cell BK224.out 1).trans rfl; have hcz35_2 : w33.cell? ⟨gb224, 2, none⟩ = some (.int .i64 a0_2) := (blk_cell BK224.out 2).trans rfl; have hcz35_3 : w33.cell? ⟨gb224, 3, none⟩ = some (.string a0_3) := (blk_cell BK224.out 3).trans rfl; have hcz35_4 : w33.cell? ⟨gb224, 4, none⟩ = some (.string a0_4) := (blk_cell BK224.out 4).trans rfl; have hcz35_5 : w33.cell? ⟨gb224, 5, none⟩ = some (.slice A0_5 l0_5.length c0_5) := (blk_cell BK224.out 5).trans rfl; have hcz35_6 : w33.cell? ⟨gb224, 6, none⟩ = some (.slice A0_6 l0_6.length c0_6) := (blk_cell BK224.out 6).trans rfl; have hfz35_0 := blk_frozen BK224.out 0; have hfz35_1 := blk_frozen BK224.out 1; have hfz35_2 := blk_frozen BK224.out 2; have hfz35_3 := blk_frozen BK224.out 3; have hfz35_4 := blk_frozen BK224.out 4; have hfz35_5 := blk_frozen BK224.out 5; have hfz35_6 := blk_frozen BK224.out 6; have hcz36_0 : w33.cell? ⟨gb225, 0, none⟩ = some (.int .i64 a1_0) := (blk_cell BK225.out 0).trans rfl; have hcz36_1 : w33.cell? ⟨gb225, 1, none⟩ = some (.int .i64 a1_1) := (blk_cell BK225.out 1).trans rfl; have hcz36_2 : w33.cell? ⟨gb225, 2, none⟩ = some (.int .i64 a1_2) := (blk_cell BK225.out 2).trans rfl; have hcz36_3 : w33.cell? ⟨gb225, 3, none⟩ = some (.string a1_3) := (blk_cell BK225.out 3).trans rfl; have hcz36_4 : w33.cell? ⟨gb225, 4, none⟩ = some (.string a1_4) := (blk_cell BK225.out 4).trans rfl; have hcz36_5 : w33.cell? ⟨gb225, 5, none⟩ = some (.slice A1_5 l1_5.length c1_5) := (blk_cell BK225.out 5).trans rfl; have hcz36_6 : w33.cell? ⟨gb225, 6, none⟩ = some (.slice A1_6 l1_6.length c1_6) := (blk_cell BK225.out 6).trans rfl; have hfz36_0 := blk_frozen BK225.out 0; have hfz36_1 := blk_frozen BK225.out 1; have hfz36_2 := blk_frozen BK225.out 2; have hfz36_3 := blk_frozen BK225.out 3; have hfz36_4 := blk_frozen BK225.out 4; have hfz36_5 := blk_frozen BK225.out 5; have hfz36_6 := blk_frozen BK225.out 6) | ((with_reducible refine gate_callee (f := 84) rfl ?_); refine goesL_ (some 14) rfl rfl Try.func84 (by kernel_rfl) rfl #[.agg #[.int .i64 a0_1, .int .i64 a0_2, .string a0_3, .string a0_4], .agg #[.int .i64 a1_1, .int .i64 a1_2, .string a1_3, .string a1_4]] rfl (by (try simp only [List.map_toArray, List.map_cons, List.map_nil]); first | done | rfl | (simp only [List.length_drop, List.length_take]; rfl)) ?_; (with_reducible refine (laws_eqAtom.calls a0_1 a0_2 a0_3 a0_4 a1_1 a1_2 a1_3 a1_4 true _ A4.out).mono ?_); rintro e w37 ⟨rfl, hb⟩; refine ⟨_, rfl, ?_⟩; have n0_ := Aside0.mk (blk_below (g := gb224) (o := .cells #[.int .i64 a0_0, .int .i64 a0_1, .int .i64 a0_2, .string a0_3, .string a0_4, .slice A0_5 l0_5.length c0_5, .slice A0_6 l0_6.length c0_6] 63 (0, 0)) (by (with_reducible repeat (first | refine blk_drewN ?_ _ | refine blk_drew ?_ | refine blk_alloc ?_ _)); exact BK224.out) hb); have n1_ := Aside0.mk (blk_below (g := gb225) (o := .cells #[.int .i64 a1_0, .int .i64 a1_1, .int .i64 a1_2, .string a1_3, .string a1_4, .slice A1_5 l1_5.length c1_5, .slice A1_6 l1_6.length c1_6] 63 (0, 0)) (by (with_reducible repeat (first | refine blk_drewN ?_ _ | refine blk_drew ?_ | refine blk_alloc ?_ _)); exact BK225.out) hb); have n2_ := Aside0.mk (below_step (by repeat (first | (with_reducible first | exact HB.out | apply below_alloc | apply pw_below_drewN | apply below_drew1 | refine below_set ?_ GE224.out | refine below_set ?_ GE225.out) | exact HB.out)) hb); clear BK224; clear BK225; clear HB; have BK224 := n0_; have BK225 := n1_; have HB := n2_; clear n0_ n1_ n2_; (try clear hb); (try clear hb2); (try clear hk); (try clear hi); have hcz38_0 : w37.cell? ⟨gb224, 0, none⟩ = some (.int .i64 a0_0) := (blk_cell BK224.out 0).trans rfl; have hcz38_1 : w37.cell? ⟨gb224, 1, none⟩ = some (.int .i64 a0_1) := (blk_cell BK224.out 1).trans rfl; have hcz38_2 : w37.cell? ⟨gb224, 2, none⟩ = some (.int .i64 a0_2) := (blk_cell BK224.out 2).trans rfl; have hcz38_3 : w37.cell? ⟨gb224, 3, none⟩ = some (.string a0_3) := (blk_cell BK224.out 3).trans rfl; have hcz38_4 : w37.cell? ⟨gb224, 4, none⟩ = some (.string a0_4) := (blk_cell BK224.out 4).trans rfl; have hcz38_5 : w37.cell? ⟨gb224, 5, none⟩ = some (.slice A0_5 l0_5.length c0_5) := (blk_cell BK224.out 5).trans rfl; have hcz38_6 : w37.cell? ⟨gb224, 6, none⟩ = some (.slice A0_6 l0_6.length c0_6) := (blk_cell BK224.out 6).trans rfl; have hfz38_0 := blk_frozen BK224.out 0; have hfz38_1 := blk_frozen BK224.out 1; have hfz38_2 := blk_frozen BK224.out 2; have hfz38_3 := blk_frozen BK224.out 3; have hfz38_4 := blk_frozen BK224.out 4; have hfz38_5 := blk_frozen BK224.out 5; have hfz38_6 := blk_frozen BK224.out 6; have hcz39_0 : w37.cell? ⟨gb225, 0, none⟩ = some (.int .i64 a1_0) := (blk_cell BK225.out 0).trans rfl; have hcz39_1 : w37.cell? ⟨gb225, 1, none⟩ = some (.int .i64 a1_1) := (blk_cell BK225.out 1).trans rfl; have hcz39_2 : w37.cell? ⟨gb225, 2, none⟩ = some (.int .i64 a1_2) := (blk_cell BK225.out 2).trans rfl; have hcz39_3 : w37.cell? ⟨gb225, 3, none⟩ = some (.string a1_3) := (blk_cell BK225.out 3).trans rfl; have hcz39_4 : w37.cell? ⟨gb225, 4, none⟩ = some (.string a1_4) := (blk_cell BK225.out 4).trans rfl; have hcz39_5 : w37.cell? ⟨gb225, 5, none⟩ = some (.slice A1_5 l1_5.length c1_5) := (blk_cell BK225.out 5).trans rfl; have hcz39_6 : w37.cell? ⟨gb225, 6, none⟩ = some (.slice A1_6 l1_6.length c1_6) := (blk_cell BK225.out 6).trans rfl; have hfz39_0 := blk_frozen BK225.out 0; have hfz39_1 := blk_frozen BK225.out 1; have hfz39_2 := blk_frozen BK225.out 2; have hfz39_3 := blk_frozen BK225.out 3; have hfz39_4 := blk_frozen BK225.out 4; have hfz39_5 := blk_frozen BK225.out 5; have hfz39_6 := blk_frozen BK225.out 6) | ((with_reducible refine gate_callee (f := 85) rfl ?_); refine goesL_ (some 20) rfl rfl Try.func85 (by kernel_rfl) rfl #[.slice A0_5 l0_5.length c0_5, .slice A1_5 l1_5.length c1_5] rfl (by (try simp only [List.map_toArray, List.map_cons, List.map_nil]); first | done | rfl | (simp only [List.length_drop, List.length_take]; rfl)) ?_; (with_reducible refine (laws_eqAtomS.calls k _ _ l0_5 _ _ l1_5 false _ ?side1 ?side2 ?side3 ?side4 A6.out).mono ?_); (case side1 => repeat (first | exact (Kd.C_below HR0_5.out HB.out) | (with_reducible refine Kd.C_alloc ?_ _) | (with_reducible refine Kd.C_drewN ?_ _) | (with_reducible refine Kd.C_drew ?_))); (case side2 => exact HC0_5.out); (case side3 => repeat (first | exact (Kd.C_below HR1_5.out HB.out) | (with_reducible refine Kd.C_alloc ?_ _) | (with_reducible refine Kd.C_drewN ?_ _) | (with_reducible refine Kd.C_drew ?_))); (case side4 => exact HC1_5.out); rintro e w40 ⟨rfl, hb⟩; refine ⟨_, rfl, ?_⟩; have n0_ := Aside0.mk (blk_below (g := gb224) (o := .cells #[.int .i64 a0_0, .int .i64 a0_1, .int .i64 a0_2, .string a0_3, .string a0_4, .slice A0_5 l0_5.length c0_5, .slice A0_6 l0_6.length c0_6] 63 (0, 0)) (by (with_reducible repeat (first | refine blk_drewN ?_ _ | refine blk_drew ?_ | refine blk_alloc ?_ _)); exact BK224.out) hb); have n1_ := Aside0.mk (blk_below (g := gb225) (o := .cells #[.int .i64 a1_0, .int .i64 a1_1, .int .i64 a1_2, .string a1_3, .string a1_4, .slice A1_5 l1_5.length c1_5, .slice A1_6 l1_6.length c1_6] 63 (0, 0)) (by (with_reducible repeat (first | refine blk_drewN ?_ _ | refine blk_drew ?_ | refine blk_alloc ?_ _)); exact BK225.out) hb); have n2_ := Aside0.mk (below_step (by repeat (first | (with_reducible first | exact HB.out | apply below_alloc | apply pw_below_drewN | apply below_drew1 | refine below_set ?_ GE224.out | refine below_set ?_ GE225.out) | exact HB.out)) hb); clear BK224; clear BK225; clear HB; have BK224 := n0_; have BK225 := n1_; have HB := n2_; clear n0_ n1_ n2_; (try clear hb); (try clear hb2); (try clear hk); (try clear hi)))
        go_ret
        exact ⟨by first | rfl | (simp [errW_none, errW_some] <;> rfl) | (simp [*, errW_none, errW_some] <;> rfl), by repeat (first | (with_reducible first | exact HB.out | apply below_alloc | apply pw_below_drewN | apply below_drew1 | refine below_set ?_ GE224.out | refine below_set ?_ GE225.out) | exact HB.out)⟩
    · replace c5 := Bool.eq_false_iff.mpr c5
      subst c5
      have H1 : (some false) = some r := by rw [if_neg (show ¬ (false = true) by decide)] at H; exact H
      clear H
      have H := H1
      clear H1
      obtain rfl := Option.some.inj H
      go_enter Try.func31, Try.ntmps31
      go_wp2_with (first | ((with_reducible refine gate_dst (N := 2) rfl ?_); refine box_event ?hg (N := 2) ?hd (cs := #[.int .i64 a0_0, .int .i64 a0_1, .int .i64 a0_2, .string a0_3, .string a0_4, .slice A0_5 l0_5.length c0_5, .slice A0_6 l0_6.length c0_6]) (t := 63) ?hr ?_; (case hd => rfl); (case hg => rfl); (case hr => first | (go_simp; done) | (go_simp; rfl)); intro gb224 hg w41 hbox hb; have n0_ := Aside0.mk (below_step (by repeat (first | (with_reducible first | exact HB.out | apply below_alloc | apply pw_below_drewN | apply below_drew1) | exact HB.out)) hb); have n1_ := Aside0.mk (hbox); have n2_ := Aside0.mk ((by rw [hg]; exact (below_size (by repeat (first | (with_reducible first | exact HB.out | apply below_alloc | apply pw_below_drewN | apply below_drew1) | exact HB.out))) : w.heap.size ≤ gb224)); have n3_ := Aside0.mk ((by rw [hg]; exact (below_size (by repeat (first | (with_reducible first | exact HB.out | apply below_alloc | apply pw_below_drewN | apply below_drew1) | exact HB.out))) : w.heap.size ≤ gb224)); clear HB; have HB := n0_; have BK224 := n1_; have GW224 := n2_; have GE224 := n3_; clear n0_ n1_ n2_ n3_; clear hb hbox hg) | ((with_reducible refine gate_dst (N := 3) rfl ?_); refine box_event ?hg (N := 3) ?hd (cs := #[.int .i64 a1_0, .int .i64 a1_1, .int .i64 a1_2, .string a1_3, .string a1_4, .slice A1_5 l1_5.length c1_5, .slice A1_6 l1_6.length c1_6]) (t := 63) ?hr ?_; (case hd => rfl); (case hg => rfl); (case hr => first | (go_simp; done) | (go_simp; rfl)); intro gb225 hg w42 hbox hb; have n0_ := Aside0.mk (blk_below (g := gb224) (o := .cells #[.int .i64 a0_0, .int .i64 a0_1, .int .i64 a0_2, .string a0_3, .string a0_4, .slice A0_5 l0_5.length c0_5, .slice A0_6 l0_6.length c0_6] 63 (0, 0)) (by (with_reducible repeat (first | refine blk_drewN ?_ _ | refine blk_drew ?_ | refine blk_alloc ?_ _)); exact BK224.out) hb); have n1_ := Aside0.mk (below_step (by repeat (first | (with_reducible first | exact HB.out | apply below_alloc | apply pw_below_drewN | apply below_drew1 | refine below_set ?_ GE224.out) | exact HB.out)) hb); have n2_ := Aside0.mk (hbox); have n3_ := Aside0.mk ((by rw [hg]; exact (below_size (by repeat (first | (with_reducible first | exact HB.out | apply below_alloc | apply pw_below_drewN | apply below_drew1 | refine below_set ?_ GE224.out) | exact HB.out))) : w.heap.size ≤ gb225)); have n4_ := Aside0.mk ((by rw [hg]; exact (below_size (by repeat (first | (with_reducible first | exact HB.out | apply below_alloc | apply pw_below_drewN | apply below_drew1 | refine below_set ?_ GE224.out) | exact HB.out))) : w.heap.size ≤ gb225)); have n5_ := Aside0.mk ((by rw [hg]; exact Nat.ne_of_lt (blk_lt (g := gb224) (o := .cells #[.int .i64 a0_0, .int .i64 a0_1, .int .i64 a0_2, .string a0_3, .string a0_4, .slice A0_5 l0_5.length c0_5, .slice A0_6 l0_6.length c0_6] 63 (0, 0)) (by (with_reducible repeat (first | refine blk_drewN ?_ _ | refine blk_drew ?_ | refine blk_alloc ?_ _)); exact BK224.out)) : gb224 ≠ gb225)); have n6_ := Aside0.mk ((by rw [hg]; exact Nat.ne_of_gt (blk_lt (g := gb224) (o := .cells #[.int .i64 a0_0, .int .i64 a0_1, .int .i64 a0_2, .string a0_3, .string a0_4, .slice A0_5 l0_5.length c0_5, .slice A0_6 l0_6.length c0_6] 63 (0, 0)) (by (with_reducible repeat (first | refine blk_drewN ?_ _ | refine blk_drew ?_ | refine blk_alloc ?_ _)); exact BK224.out)) : gb225 ≠ gb224)); clear BK224; clear HB; have BK224 := n0_; have HB := n1_; have BK225 := n2_; have GW225 := n3_; have GE225 := n4_; have NB224_225 := n5_; have NB225_224 := n6_; clear n0_ n1_ n2_ n3_ n4_ n5_ n6_; clear hb hbox hg; have hnb43 := NB224_225.out; have hnc43 := NB225_224.out; have hcz44_0 : w42.cell? ⟨gb224, 0, none⟩ = some (.int .i64 a0_0) := (blk_cell BK224.out 0).trans rfl; have hcz44_1 : w42.cell? ⟨gb224, 1, none⟩ = some (.int .i64 a0_1) := (blk_cell BK224.out 1).trans rfl; have hcz44_2 : w42.cell? ⟨gb224, 2, none⟩ = some (.int .i64 a0_2) := (blk_cell BK224.out 2).trans rfl; have hcz44_3 : w42.cell? ⟨gb224, 3, none⟩ = some (.string a0_3) := (blk_cell BK224.out 3).trans rfl; have hcz44_4 : w42.cell? ⟨gb224, 4, none⟩ = some (.string a0_4) := (blk_cell BK224.out 4).trans rfl; have hcz44_5 : w42.cell? ⟨gb224, 5, none⟩ = some (.slice A0_5 l0_5.length c0_5) := (blk_cell BK224.out 5).trans rfl; have hcz44_6 : w42.cell? ⟨gb224, 6, none⟩ = some (.slice A0_6 l0_6.length c0_6) := (blk_cell BK224.out 6).trans rfl; have hfz44_0 := blk_frozen BK224.out 0; have hfz44_1 := blk_frozen BK224.out 1; have hfz44_2 := blk_frozen BK224.out 2; have hfz44_3 := blk_frozen BK224.out 3; have hfz44_4 := blk_frozen BK224.out 4; have hfz44_5 := blk_frozen BK224.out 5; have hfz44_6 := blk_frozen BK224.out 6; have hcz45_0 : w42.cell? ⟨gb225, 0, none⟩ = some (.int .i64 a1_0) := (blk_cell BK225.out 0).trans rfl; have hcz45_1 : w42.cell? ⟨gb225, 1, none⟩ = some (.int .i64 a1_1) := (blk_cell BK225.out 1).trans rfl; have hcz45_2 : w42.cell? ⟨gb225, 2, none⟩ = some (.int .i64 a1_2) := (blk_cell BK225.out 2).trans rfl; have hcz45_3 : w42.cell? ⟨gb225, 3, none⟩ = some (.string a1_3) := (blk_cell BK225.out 3).trans rfl; have hcz45_4 : w42.cell? ⟨gb225, 4, none⟩ = some (.string a1_4) := (blk_cell BK225.out 4).trans rfl; have hcz45_5 : w42.cell? ⟨gb225, 5, none⟩ = some (.slice A1_5 l1_5.length c1_5) := (blk_cell BK225.out 5).trans rfl; have hcz45_6 : w42.cell? ⟨gb225, 6, none⟩ = some (.slice A1_6 l1_6.length c1_6) := (blk_cell BK225.out 6).trans rfl; have hfz45_0 := blk_frozen BK225.out 0; have hfz45_1 := blk_frozen BK225.out 1; have hfz45_2 := blk_frozen BK225.out 2; have hfz45_3 := blk_frozen BK225.out 3; have hfz45_4 := blk_frozen BK225.out 4; have hfz45_5 := blk_frozen BK225.out 5; have hfz45_6 := blk_frozen BK225.out 6) | ((with_reducible refine gate_callee (f := 84) rfl ?_); refine goesL_ (some 14) rfl rfl Try.func84 (by kernel_rfl) rfl #[.agg #[.int .i64 a0_1, .int .i64 a0_2, .string a0_3, .string a0_4], .agg #[.int .i64 a1_1, .int .i64 a1_2, .string a1_3, .string a1_4]] rfl (by (try simp only [List.map_toArray, List.map_cons, List.map_nil]); first | done | rfl | (simp only [List.length_drop, List.length_take]; rfl)) ?_; (with_reducible refine (laws_eqAtom.calls a0_1 a0_2 a0_3 a0_4 a1_1 a1_2 a1_3 a1_4 false _ A4.out).mono ?_); rintro e w46 ⟨rfl, hb⟩; refine ⟨_, rfl, ?_⟩; have n0_ := Aside0.mk (blk_below (g := gb224) (o := .cells #[.int .i64 a0_0, .int .i64 a0_1, .int .i64 a0_2, .string a0_3, .string a0_4, .slice A0_5 l0_5.length c0_5, .slice A0_6 l0_6.length c0_6] 63 (0, 0)) (by (with_reducible repeat (first | refine blk_drewN ?_ _ | refine blk_drew ?_ | refine blk_alloc ?_ _)); exact BK224.out) hb); have n1_ := Aside0.mk (blk_below (g := gb225) (o := .cells #[.int .i64 a1_0, .int .i64 a1_1, .int .i64 a1_2, .string a1_3, .string a1_4, .slice A1_5 l1_5.length c1_5, .slice A1_6 l1_6.length c1_6] 63 (0, 0)) (by (with_reducible repeat (first | refine blk_drewN ?_ _ | refine blk_drew ?_ | refine blk_alloc ?_ _)); exact BK225.out) hb); have n2_ := Aside0.mk (below_step (by repeat (first | (with_reducible first | exact HB.out | apply below_alloc | apply pw_below_drewN | apply below_drew1 | refine below_set ?_ GE224.out | refine below_set ?_ GE225.out) | exact HB.out)) hb); clear BK224; clear BK225; clear HB; have BK224 := n0_; have BK225 := n1_; have HB := n2_; clear n0_ n1_ n2_; (try clear hb); (try clear hb2); (try clear hk); (try clear hi)))
      go_ret
      exact ⟨by first | rfl | (simp [errW_none, errW_some] <;> rfl) | (simp [*, errW_none, errW_some] <;> rfl), by repeat (first | (with_reducible first | exact HB.out | apply below_alloc | apply pw_below_drewN | apply below_drew1 | refine below_set ?_ GE224.out | refine below_set ?_ GE225.out) | exact HB.out)⟩
  · rw [if_neg c3] at H
    have c3b0 : (a0_0 == a1_0) = false := beq_eq_false_iff_ne.mpr c3
    have c3b1 : (a0_0 != a1_0) = true := bne_iff_ne.mpr c3
    obtain rfl := Option.some.inj H
    go_enter Try.func31, Try.ntmps31
    go_wp2_with (first | ((with_reducible refine gate_dst (N := 2) rfl ?_); refine box_event ?hg (N := 2) ?hd (cs := #[.int .i64 a0_0, .int .i64 a0_1, .int .i64 a0_2, .string a0_3, .string a0_4, .slice A0_5 l0_5.length c0_5, .slice A0_6 l0_6.length c0_6]) (t := 63) ?hr ?_; (case hd => rfl); (case hg => rfl); (case hr => first | (go_simp; done) | (go_simp; rfl)); intro gb224 hg w47 hbox hb; have n0_ := Aside0.mk (below_step (by repeat (first | (with_reducible first | exact HB.out | apply below_alloc | apply pw_below_drewN | apply below_drew1) | exact HB.out)) hb); have n1_ := Aside0.mk (hbox); have n2_ := Aside0.mk ((by rw [hg]; exact (below_size (by repeat (first | (with_reducible first | exact HB.out | apply below_alloc | apply pw_below_drewN | apply below_drew1) | exact HB.out))) : w.heap.size ≤ gb224)); have n3_ := Aside0.mk ((by rw [hg]; exact (below_size (by repeat (first | (with_reducible first | exact HB.out | apply below_alloc | apply pw_below_drewN | apply below_drew1) | exact HB.out))) : w.heap.size ≤ gb224)); clear HB; have HB := n0_; have BK224 := n1_; have GW224 := n2_; have GE224 := n3_; clear n0_ n1_ n2_ n3_; clear hb hbox hg) | ((with_reducible refine gate_dst (N := 3) rfl ?_); refine box_event ?hg (N := 3) ?hd (cs := #[.int .i64 a1_0, .int .i64 a1_1, .int .i64 a1_2, .string a1_3, .string a1_4, .slice A1_5 l1_5.length c1_5, .slice A1_6 l1_6.length c1_6]) (t := 63) ?hr ?_; (case hd => rfl); (case hg => rfl); (case hr => first | (go_simp; done) | (go_simp; rfl)); intro gb225 hg w48 hbox hb; have n0_ := Aside0.mk (blk_below (g := gb224) (o := .cells #[.int .i64 a0_0, .int .i64 a0_1, .int .i64 a0_2, .string a0_3, .string a0_4, .slice A0_5 l0_5.length c0_5, .slice A0_6 l0_6.length c0_6] 63 (0, 0)) (by (with_reducible repeat (first | refine blk_drewN ?_ _ | refine blk_drew ?_ | refine blk_alloc ?_ _)); exact BK224.out) hb); have n1_ := Aside0.mk (below_step (by repeat (first | (with_reducible first | exact HB.out | apply below_alloc | apply pw_below_drewN | apply below_drew1 | refine below_set ?_ GE224.out) | exact HB.out)) hb); have n2_ := Aside0.mk (hbox); have n3_ := Aside0.mk ((by rw [hg]; exact (below_size (by repeat (first | (with_reducible first | exact HB.out | apply below_alloc | apply pw_below_drewN | apply below_drew1 | refine below_set ?_ GE224.out) | exact HB.out))) : w.heap.size ≤ gb225)); have n4_ := Aside0.mk ((by rw [hg]; exact (below_size (by repeat (first | (with_reducible first | exact HB.out | apply below_alloc | apply pw_below_drewN | apply below_drew1 | refine below_set ?_ GE224.out) | exact HB.out))) : w.heap.size ≤ gb225)); have n5_ := Aside0.mk ((by rw [hg]; exact Nat.ne_of_lt (blk_lt (g := gb224) (o := .cells #[.int .i64 a0_0, .int .i64 a0_1, .int .i64 a0_2, .string a0_3, .string a0_4, .slice A0_5 l0_5.length c0_5, .slice A0_6 l0_6.length c0_6] 63 (0, 0)) (by (with_reducible repeat (first | refine blk_drewN ?_ _ | refine blk_drew ?_ | refine blk_alloc ?_ _)); exact BK224.out)) : gb224 ≠ gb225)); have n6_ := Aside0.mk ((by rw [hg]; exact Nat.ne_of_gt (blk_lt (g := gb224) (o := .cells #[.int .i64 a0_0, .int .i64 a0_1, .int .i64 a0_2, .string a0_3, .string a0_4, .slice A0_5 l0_5.length c0_5, .slice A0_6 l0_6.length c0_6] 63 (0, 0)) (by (with_reducible repeat (first | refine blk_drewN ?_ _ | refine blk_drew ?_ | refine blk_alloc ?_ _)); exact BK224.out)) : gb225 ≠ gb224)); clear BK224; clear HB; have BK224 := n0_; have HB := n1_; have BK225 := n2_; have GW225 := n3_; have GE225 := n4_; have NB224_225 := n5_; have NB225_224 := n6_; clear n0_ n1_ n2_ n3_ n4_ n5_ n6_; clear hb hbox hg; have hnb49 := NB224_225.out; have hnc49 := NB225_224.out; have hcz50_0 : w48.cell? ⟨gb224, 0, none⟩ = some (.int .i64 a0_0) := (blk_cell BK224.out 0).trans rfl; have hcz50_1 : w48.cell? ⟨gb224, 1, none⟩ = some (.int .i64 a0_1) := (blk_cell BK224.out 1).trans rfl; have hcz50_2 : w48.cell? ⟨gb224, 2, none⟩ = some (.int .i64 a0_2) := (blk_cell BK224.out 2).trans rfl; have hcz50_3 : w48.cell? ⟨gb224, 3, none⟩ = some (.string a0_3) := (blk_cell BK224.out 3).trans rfl; have hcz50_4 : w48.cell? ⟨gb224, 4, none⟩ = some (.string a0_4) := (blk_cell BK224.out 4).trans rfl; have hcz50_5 : w48.cell? ⟨gb224, 5, none⟩ = some (.slice A0_5 l0_5.length c0_5) := (blk_cell BK224.out 5).trans rfl; have hcz50_6 : w48.cell? ⟨gb224, 6, none⟩ = some (.slice A0_6 l0_6.length c0_6) := (blk_cell BK224.out 6).trans rfl; have hfz50_0 := blk_frozen BK224.out 0; have hfz50_1 := blk_frozen BK224.out 1; have hfz50_2 := blk_frozen BK224.out 2; have hfz50_3 := blk_frozen BK224.out 3; have hfz50_4 := blk_frozen BK224.out 4; have hfz50_5 := blk_frozen BK224.out 5; have hfz50_6 := blk_frozen BK224.out 6; have hcz51_0 : w48.cell? ⟨gb225, 0, none⟩ = some (.int .i64 a1_0) := (blk_cell BK225.out 0).trans rfl; have hcz51_1 : w48.cell? ⟨gb225, 1, none⟩ = some (.int .i64 a1_1) := (blk_cell BK225.out 1).trans rfl; have hcz51_2 : w48.cell? ⟨gb225, 2, none⟩ = some (.int .i64 a1_2) := (blk_cell BK225.out 2).trans rfl; have hcz51_3 : w48.cell? ⟨gb225, 3, none⟩ = some (.string a1_3) := (blk_cell BK225.out 3).trans rfl; have hcz51_4 : w48.cell? ⟨gb225, 4, none⟩ = some (.string a1_4) := (blk_cell BK225.out 4).trans rfl; have hcz51_5 : w48.cell? ⟨gb225, 5, none⟩ = some (.slice A1_5 l1_5.length c1_5) := (blk_cell BK225.out 5).trans rfl; have hcz51_6 : w48.cell? ⟨gb225, 6, none⟩ = some (.slice A1_6 l1_6.length c1_6) := (blk_cell BK225.out 6).trans rfl; have hfz51_0 := blk_frozen BK225.out 0; have hfz51_1 := blk_frozen BK225.out 1; have hfz51_2 := blk_frozen BK225.out 2; have hfz51_3 := blk_frozen BK225.out 3; have hfz51_4 := blk_frozen BK225.out 4; have hfz51_5 := blk_frozen BK225.out 5; have hfz51_6 := blk_frozen BK225.out 6))
    go_ret
    exact ⟨by first | rfl | (simp [errW_none, errW_some] <;> rfl) | (simp [*, errW_none, errW_some] <;> rfl), by repeat (first | (with_reducible first | exact HB.out | apply below_alloc | apply pw_below_drewN | apply below_drew1 | refine below_set ?_ GE224.out | refine below_set ?_ GE225.out) | exact HB.out)⟩

end Go.Proofs.Ytcgiegkcmofhhaa.PFnExactGoodValue
