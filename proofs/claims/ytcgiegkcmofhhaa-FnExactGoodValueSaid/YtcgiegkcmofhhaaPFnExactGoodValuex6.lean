-- Written for this claim by a program of this session, which goes by the kit's print and takes contracts proved by hand.
import Derived.Test.YtcgiegkcmofhhaaPFnExactGoodValuex0
import Derived.Test.YtcgiegkcmofhhaaPFnExactGoodValuex1
import Derived.Test.YtcgiegkcmofhhaaPFnExactGoodValuex2
import Derived.Test.YtcgiegkcmofhhaaPFnExactGoodValuex3
import Derived.Test.YtcgiegkcmofhhaaPFnExactGoodValuex4
import Derived.Test.YtcgiegkcmofhhaaPFnExactGoodValuex5
namespace Go.Proofs.Ytcgiegkcmofhhaa.PFnExactGoodValue
open Go.RowKit Go.Proofs.YtcgiegkcmofhhaaW.PrintWords Go.Proofs.YtcgiegkcmofhhaaW.PrintLast Go.Proofs.YtcgiegkcmofhhaaW.PrintMore
attribute [local go_sem] max2_int min2_int max_two min_two max_three min_three max_four min_four   -- for this text's walks alone
set_option linter.unusedVariables false
set_option linter.unusedSimpArgs false

attribute [local go_sem high] eqA60
/-! ### spec_GoodValue: function 28 -/
mutual
def spec_GoodValue.j0 : Nat → Bool → Int → Int → Int → ByteArray → ByteArray → List (S60) → List ByteArray → Option (Bool)
  | 0, _, _, _, _, _, _, _, _ => none
  | k + 1, x26, x130000, x130001, x130002, x130003, x130004, x130005, x130006 => if x26 = true then (if (!(x130001 == 0) || (!(x130002 == 0) || (!(x130003.toList == ([] : List UInt8)) || (!(x130004.toList == ([] : List UInt8)))))) = true then (spec_GoodValue.j1 k true x130000 x130001 x130002 x130003 x130004 x130005 x130006) else (spec_GoodValue.j1 k (decide ((x130005.length : Int) > 50)) x130000 x130001 x130002 x130003 x130004 x130005 x130006)) else (some false)
def spec_GoodValue.j1 : Nat → Bool → Int → Int → Int → ByteArray → ByteArray → List (S60) → List ByteArray → Option (Bool)
  | 0, _, _, _, _, _, _, _, _ => none
  | k + 1, x38, x130000, x130001, x130002, x130003, x130004, x130005, x130006 => if x38 = true then (some false) else (spec_GoodValue.l0 k x130005 (x130005.length : Int) 0 x130000 x130001 x130002 x130003 x130004 x130005 x130006)
def spec_GoodValue.l0 : Nat → List (S60) → Int → Int → Int → Int → Int → ByteArray → ByteArray → List (S60) → List ByteArray → Option (Bool)
  | 0, _, _, _, _, _, _, _, _, _, _ => none
  | k + 1, x40, x41, x42, x130000, x130001, x130002, x130003, x130004, x130005, x130006 => if x42 < x41 then (if 0 ≤ x42 then (if x42 < (x40.length : Int) then ((spec_GoodAtom.f k ((rd_T60 x40 x42).f0) ((rd_T60 x40 x42).f1) ((rd_T60 x40 x42).f2) ((rd_T60 x40 x42).f3)).bind fun t133 => (if t133 = true then (if x130000 = 2 then (if x42 > 0 then (if 0 ≤ (wrap64 (x42 - 1)) then (if (wrap64 (x42 - 1)) < (x130005.length : Int) then ((spec_l1Cmp.f k ((rd_T60 x130005 (wrap64 (x42 - 1))).f0) ((rd_T60 x130005 (wrap64 (x42 - 1))).f1) ((rd_T60 x130005 (wrap64 (x42 - 1))).f2) ((rd_T60 x130005 (wrap64 (x42 - 1))).f3) ((rd_T60 x40 x42).f0) ((rd_T60 x40 x42).f1) ((rd_T60 x40 x42).f2) ((rd_T60 x40 x42).f3)).bind fun t135 => (if t135 ≥ 0 then (some false) else (spec_GoodValue.l0 k x40 x41 (wrap64 (x42 + 1)) x130000 x130001 x130002 x130003 x130004 x130005 x130006))) else (none)) else (none)) else (spec_GoodValue.l0 k x40 x41 (wrap64 (x42 + 1)) x130000 x130001 x130002 x130003 x130004 x130005 x130006)) else (spec_GoodValue.l0 k x40 x41 (wrap64 (x42 + 1)) x130000 x130001 x130002 x130003 x130004 x130005 x130006)) else (some false))) else (none)) else (none)) else (if x130000 = 2 then (some ((x130006.length : Int) == 0)) else (if (x130006.length : Int) = (x130005.length : Int) then (spec_GoodValue.l1 k x130006 (x130006.length : Int) 0 x130000 x130001 x130002 x130003 x130004 x130005 x130006) else (some false)))
def spec_GoodValue.l1 : Nat → List ByteArray → Int → Int → Int → Int → Int → ByteArray → ByteArray → List (S60) → List ByteArray → Option (Bool)
  | 0, _, _, _, _, _, _, _, _, _, _ => none
  | k + 1, x86, x87, x88, x130000, x130001, x130002, x130003, x130004, x130005, x130006 => if x88 < x87 then (if 0 ≤ x88 then (if x88 < (x86.length : Int) then ((spec_GoodName.f k (rdOf ByteArray.empty x86 x88)).bind fun t137 => (if t137 = true then (if x88 > 0 then (if 0 ≤ (wrap64 (x88 - 1)) then (if (wrap64 (x88 - 1)) < (x130006.length : Int) then ((spec_l1CmpText.f k (rdOf ByteArray.empty x130006 (wrap64 (x88 - 1))) (rdOf ByteArray.empty x86 x88)).bind fun t139 => (if t139 ≥ 0 then (some false) else (spec_GoodValue.l1 k x86 x87 (wrap64 (x88 + 1)) x130000 x130001 x130002 x130003 x130004 x130005 x130006))) else (none)) else (none)) else (spec_GoodValue.l1 k x86 x87 (wrap64 (x88 + 1)) x130000 x130001 x130002 x130003 x130004 x130005 x130006)) else (some false))) else (none)) else (none)) else (some true)
end
def spec_GoodValue.f (k : Nat) (a0_0 : Int) (a0_1 : Int) (a0_2 : Int) (a0_3 : ByteArray) (a0_4 : ByteArray) (l0_5 : List (S60)) (l0_6 : List ByteArray) : Option (Bool) := if a0_0 = 1 then ((spec_GoodAtom.f k a0_1 a0_2 a0_3 a0_4).bind fun t130 => (if t130 = true then (if (l0_5.length : Int) = 0 then (some ((l0_6.length : Int) == 0)) else (some false)) else (some false))) else (if a0_0 = 2 then (spec_GoodValue.j0 k (a0_0 == 2) a0_0 a0_1 a0_2 a0_3 a0_4 l0_5 l0_6) else (spec_GoodValue.j0 k (a0_0 == 3) a0_0 a0_1 a0_2 a0_3 a0_4 l0_5 l0_6))
theorem spec_GoodValue.mono_l : ∀ k, (∀ y0 y1 y2 y3 y4 y5 y6 y7, LeO (spec_GoodValue.j0 k y0 y1 y2 y3 y4 y5 y6 y7) (spec_GoodValue.j0 (k + 1) y0 y1 y2 y3 y4 y5 y6 y7)) ∧ (∀ y0 y1 y2 y3 y4 y5 y6 y7, LeO (spec_GoodValue.j1 k y0 y1 y2 y3 y4 y5 y6 y7) (spec_GoodValue.j1 (k + 1) y0 y1 y2 y3 y4 y5 y6 y7)) ∧ (∀ y0 y1 y2 y3 y4 y5 y6 y7 y8 y9, LeO (spec_GoodValue.l0 k y0 y1 y2 y3 y4 y5 y6 y7 y8 y9) (spec_GoodValue.l0 (k + 1) y0 y1 y2 y3 y4 y5 y6 y7 y8 y9)) ∧ (∀ y0 y1 y2 y3 y4 y5 y6 y7 y8 y9, LeO (spec_GoodValue.l1 k y0 y1 y2 y3 y4 y5 y6 y7 y8 y9) (spec_GoodValue.l1 (k + 1) y0 y1 y2 y3 y4 y5 y6 y7 y8 y9))
  | 0 => ⟨fun _ _ _ _ _ _ _ _ r h => by simp [spec_GoodValue.j0] at h, fun _ _ _ _ _ _ _ _ r h => by simp [spec_GoodValue.j1] at h, fun _ _ _ _ _ _ _ _ _ _ r h => by simp [spec_GoodValue.l0] at h, fun _ _ _ _ _ _ _ _ _ _ r h => by simp [spec_GoodValue.l1] at h⟩
  | k + 1 => by
    obtain ⟨ih0, ih1, ih2, ih3⟩ := spec_GoodValue.mono_l k
    refine ⟨?_, ?_, ?_, ?_⟩
    · intro y0 y1 y2 y3 y4 y5 y6 y7
      unfold spec_GoodValue.j0
      repeat' first
      | (with_reducible exact ih0 _ _ _ _ _ _ _ _)
      | (with_reducible exact ih1 _ _ _ _ _ _ _ _)
      | (with_reducible exact ih2 _ _ _ _ _ _ _ _ _ _)
      | (with_reducible exact ih3 _ _ _ _ _ _ _ _ _ _)
      | (with_reducible exact spec_GoodAtom.mono _ _ _ _ _)
      | (with_reducible exact spec_GoodName.mono _ _)
      | (with_reducible exact spec_l1Cmp.mono _ _ _ _ _ _ _ _ _)
      | (with_reducible exact spec_l1CmpText.mono _ _ _)
      | (with_reducible exact LeO.refl _)
      | (with_reducible exact LeO.none _)
      | (with_reducible refine LeO.ite ?_ ?_)
      | (with_reducible refine LeO.bind ?_ (fun _ => ?_))
      | exact ih0 _ _ _ _ _ _ _ _
      | exact ih1 _ _ _ _ _ _ _ _
      | exact ih2 _ _ _ _ _ _ _ _ _ _
      | exact ih3 _ _ _ _ _ _ _ _ _ _
      | exact spec_GoodAtom.mono _ _ _ _ _
      | exact spec_GoodName.mono _ _
      | exact spec_l1Cmp.mono _ _ _ _ _ _ _ _ _
      | exact spec_l1CmpText.mono _ _ _
      | exact LeO.none _
      | refine LeO.ite ?_ ?_
      | refine LeO.bind ?_ (fun _ => ?_)
    · intro y0 y1 y2 y3 y4 y5 y6 y7
      unfold spec_GoodValue.j1
      repeat' first
      | (with_reducible exact ih0 _ _ _ _ _ _ _ _)
      | (with_reducible exact ih1 _ _ _ _ _ _ _ _)
      | (with_reducible exact ih2 _ _ _ _ _ _ _ _ _ _)
      | (with_reducible exact ih3 _ _ _ _ _ _ _ _ _ _)
      | (with_reducible exact spec_GoodAtom.mono _ _ _ _ _)
      | (with_reducible exact spec_GoodName.mono _ _)
      | (with_reducible exact spec_l1Cmp.mono _ _ _ _ _ _ _ _ _)
      | (with_reducible exact spec_l1CmpText.mono _ _ _)
      | (with_reducible exact LeO.refl _)
      | (with_reducible exact LeO.none _)
      | (with_reducible refine LeO.ite ?_ ?_)
      | (with_reducible refine LeO.bind ?_ (fun _ => ?_))
      | exact ih0 _ _ _ _ _ _ _ _
      | exact ih1 _ _ _ _ _ _ _ _
      | exact ih2 _ _ _ _ _ _ _ _ _ _
      | exact ih3 _ _ _ _ _ _ _ _ _ _
      | exact spec_GoodAtom.mono _ _ _ _ _
      | exact spec_GoodName.mono _ _
      | exact spec_l1Cmp.mono _ _ _ _ _ _ _ _ _
      | exact spec_l1CmpText.mono _ _ _
      | exact LeO.none _
      | refine LeO.ite ?_ ?_
      | refine LeO.bind ?_ (fun _ => ?_)
    · intro y0 y1 y2 y3 y4 y5 y6 y7 y8 y9
      unfold spec_GoodValue.l0
      repeat' first
      | (with_reducible exact ih0 _ _ _ _ _ _ _ _)
      | (with_reducible exact ih1 _ _ _ _ _ _ _ _)
      | (with_reducible exact ih2 _ _ _ _ _ _ _ _ _ _)
      | (with_reducible exact ih3 _ _ _ _ _ _ _ _ _ _)
      | (with_reducible exact spec_GoodAtom.mono _ _ _ _ _)
      | (with_reducible exact spec_GoodName.mono _ _)
      | (with_reducible exact spec_l1Cmp.mono _ _ _ _ _ _ _ _ _)
      | (with_reducible exact spec_l1CmpText.mono _ _ _)
      | (with_reducible exact LeO.refl _)
      | (with_reducible exact LeO.none _)
      | (with_reducible refine LeO.ite ?_ ?_)
      | (with_reducible refine LeO.bind ?_ (fun _ => ?_))
      | exact ih0 _ _ _ _ _ _ _ _
      | exact ih1 _ _ _ _ _ _ _ _
      | exact ih2 _ _ _ _ _ _ _ _ _ _
      | exact ih3 _ _ _ _ _ _ _ _ _ _
      | exact spec_GoodAtom.mono _ _ _ _ _
      | exact spec_GoodName.mono _ _
      | exact spec_l1Cmp.mono _ _ _ _ _ _ _ _ _
      | exact spec_l1CmpText.mono _ _ _
      | exact LeO.none _
      | refine LeO.ite ?_ ?_
      | refine LeO.bind ?_ (fun _ => ?_)
    · intro y0 y1 y2 y3 y4 y5 y6 y7 y8 y9
      unfold spec_GoodValue.l1
      repeat' first
      | (with_reducible exact ih0 _ _ _ _ _ _ _ _)
      | (with_reducible exact ih1 _ _ _ _ _ _ _ _)
      | (with_reducible exact ih2 _ _ _ _ _ _ _ _ _ _)
      | (with_reducible exact ih3 _ _ _ _ _ _ _ _ _ _)
      | (with_reducible exact spec_GoodAtom.mono _ _ _ _ _)
      | (with_reducible exact spec_GoodName.mono _ _)
      | (with_reducible exact spec_l1Cmp.mono _ _ _ _ _ _ _ _ _)
      | (with_reducible exact spec_l1CmpText.mono _ _ _)
      | (with_reducible exact LeO.refl _)
      | (with_reducible exact LeO.none _)
      | (with_reducible refine LeO.ite ?_ ?_)
      | (with_reducible refine LeO.bind ?_ (fun _ => ?_))
      | exact ih0 _ _ _ _ _ _ _ _
      | exact ih1 _ _ _ _ _ _ _ _
      | exact ih2 _ _ _ _ _ _ _ _ _ _
      | exact ih3 _ _ _ _ _ _ _ _ _ _
      | exact spec_GoodAtom.mono _ _ _ _ _
      | exact spec_GoodName.mono _ _
      | exact spec_l1Cmp.mono _ _ _ _ _ _ _ _ _
      | exact spec_l1CmpText.mono _ _ _
      | exact LeO.none _
      | refine LeO.ite ?_ ?_
      | refine LeO.bind ?_ (fun _ => ?_)
theorem spec_GoodValue.mono : ∀ a0 a1 a2 a3 a4 a5 a6 k, LeO (spec_GoodValue.f k a0 a1 a2 a3 a4 a5 a6) (spec_GoodValue.f (k + 1) a0 a1 a2 a3 a4 a5 a6) := by
  intro a0 a1 a2 a3 a4 a5 a6 k
  obtain ⟨ih0, ih1, ih2, ih3⟩ := spec_GoodValue.mono_l k
  unfold spec_GoodValue.f
  repeat' first
      | (with_reducible exact ih0 _ _ _ _ _ _ _ _)
      | (with_reducible exact ih1 _ _ _ _ _ _ _ _)
      | (with_reducible exact ih2 _ _ _ _ _ _ _ _ _ _)
      | (with_reducible exact ih3 _ _ _ _ _ _ _ _ _ _)
      | (with_reducible exact spec_GoodAtom.mono _ _ _ _ _)
      | (with_reducible exact spec_GoodName.mono _ _)
      | (with_reducible exact spec_l1Cmp.mono _ _ _ _ _ _ _ _ _)
      | (with_reducible exact spec_l1CmpText.mono _ _ _)
      | (with_reducible exact LeO.refl _)
      | (with_reducible exact LeO.none _)
      | (with_reducible refine LeO.ite ?_ ?_)
      | (with_reducible refine LeO.bind ?_ (fun _ => ?_))
      | exact ih0 _ _ _ _ _ _ _ _
      | exact ih1 _ _ _ _ _ _ _ _
      | exact ih2 _ _ _ _ _ _ _ _ _ _
      | exact ih3 _ _ _ _ _ _ _ _ _ _
      | exact spec_GoodAtom.mono _ _ _ _ _
      | exact spec_GoodName.mono _ _
      | exact spec_l1Cmp.mono _ _ _ _ _ _ _ _ _
      | exact spec_l1CmpText.mono _ _ _
      | exact LeO.none _
      | refine LeO.ite ?_ ?_
      | refine LeO.bind ?_ (fun _ => ?_)
def spec_GoodValue.T11 : Bool × List (List Nat × List Nat) := (true, [([], []), ([0], [0]), ([1], [1]), ([2, 1], [2]), ([3], [3]), ([4, 3], [3, 4]), ([5, 3], [3, 5]), ([6, 3, 3], [3, 6]), ([7], [7]), ([8, 7], [7, 8]), ([7, 9, 3], [3, 7, 9]), ([10, 7, 3], [3, 10]), ([11], [11]), ([12, 11], [11, 12]), ([11], [11]), ([14, 11], [11, 14]), ([13, 15, 11], [11, 13, 15]), ([16, 11], [11, 16]), ([11], [11]), ([17, 18, 11, 11], [11, 17, 18]), ([19, 11], [11, 19]), ([11, 20, 3], [3, 11, 20]), ([3, 21], [3, 21])])
def spec_GoodValue.B11 : List Nat := [0, 1, 3, 7, 15, 31, 63, 127, 255, 511, 1023, 2047, 4095, 8191, 4095, 20479, 65535, 131071, 4095, 524287, 1048575, 2097151, 4194303]
theorem spec_GoodValue.tab11 : rtab .any (opsOf Try.f28 11) = spec_GoodValue.T11 := by kernel_rfl
theorem spec_GoodValue.bits11 : waitsOk spec_GoodValue.T11.2 spec_GoodValue.B11 = true := by kernel_rfl
set_option maxHeartbeats 8000000 in
set_option maxRecDepth 100000 in
theorem spec_GoodValue.calls (k : Nat) (a0_0 : Int) (a0_1 : Int) (a0_2 : Int) (a0_3 : ByteArray) (a0_4 : ByteArray) (A0_5 : Option Addr) (c0_5 : Nat) (l0_5 : List (S60)) (A0_6 : Option Addr) (c0_6 : Nat) (l0_6 : List ByteArray) (r : Bool) (w : World) (hr0_5 : Kd.C k60 w A0_5 l0_5.length l0_5) (hc0_5 : l0_5.length ≤ c0_5) (hr0_6 : Kd.C Kd.string w A0_6 l0_6.length l0_6) (hc0_6 : l0_6.length ≤ c0_6) (h : spec_GoodValue.f k a0_0 a0_1 a0_2 a0_3 a0_4 l0_5 l0_6 = some r) :
    Calls Try.prog 28 #[.agg #[.int .i64 a0_0, .int .i64 a0_1, .int .i64 a0_2, .string a0_3, .string a0_4, .slice A0_5 l0_5.length c0_5, .slice A0_6 l0_6.length c0_6]] w fun e w' => e = .returned (.bool r) ∧ Below w.heap.size w w' := by
  have hu63 := Try.underlying63
  have hu60 := Try.underlying60
  have HR0_5 := Aside0.mk hr0_5
  have HC0_5 := Aside0.mk hc0_5
  clear hr0_5 hc0_5
  have HR0_6 := Aside0.mk hr0_6
  have HC0_6 := Aside0.mk hc0_6
  clear hr0_6 hc0_6
  have HB := Aside0.mk (Below.refl w.heap.size w)
  have H : (if a0_0 = 1 then ((spec_GoodAtom.f k a0_1 a0_2 a0_3 a0_4).bind fun t130 => (if t130 = true then (if (l0_5.length : Int) = 0 then (some ((l0_6.length : Int) == 0)) else (some false)) else (some false))) else (if a0_0 = 2 then (spec_GoodValue.j0 k (a0_0 == 2) a0_0 a0_1 a0_2 a0_3 a0_4 l0_5 l0_6) else (spec_GoodValue.j0 k (a0_0 == 3) a0_0 a0_1 a0_2 a0_3 a0_4 l0_5 l0_6))) = some r := h
  clear h
  by_cases c2 : a0_0 = 1
  · rw [if_pos c2] at H
    have c2b0 : (a0_0 == 1) = true := beq_iff_eq.mpr c2
    have c2b1 : (a0_0 != 1) = false := bne_eq_false_iff_eq.mpr c2
    clear c2
    replace H := Option.bind_eq_some_iff.mp H
    obtain ⟨t130, A30, H⟩ := H
    replace H : (if t130 = true then (if (l0_5.length : Int) = 0 then (some ((l0_6.length : Int) == 0)) else (some false)) else (some false)) = some r := H
    have A3 := Aside0.mk A30
    clear A30
    by_cases c4 : t130 = true
    · subst c4
      have H1 : (if (l0_5.length : Int) = 0 then (some ((l0_6.length : Int) == 0)) else (some false)) = some r := by rw [if_pos rfl] at H; exact H
      clear H
      have H := H1
      clear H1
      by_cases c5 : (l0_5.length : Int) = 0
      · rw [if_pos c5] at H
        have c5b0 : ((l0_5.length : Int) == 0) = true := beq_iff_eq.mpr c5
        have c5b1 : ((l0_5.length : Int) != 0) = false := bne_eq_false_iff_eq.mpr c5
        clear c5
        obtain rfl := Option.some.inj H
        go_enter Try.func28, Try.ntmps28
        go_wp2_with (first | ((with_reducible refine gate_dst (N := 1) rfl ?_); (try (refine gate_guard (by rfl) ?_; dsimp only)); refine box_event ?hg (N := 1) ?hd (cs := #[.int .i64 a0_0, .int .i64 a0_1, .int .i64 a0_2, .string a0_3, .string a0_4, .slice A0_5 l0_5.length c0_5, .slice A0_6 l0_6.length c0_6]) (t := 63) ?hr ?_; (case hd => rfl); (case hg => rfl); (case hr => first | (go_simp; done) | (go_simp; rfl)); intro gb129 hg w6 hbox hb; have n0_ := Aside0.mk (below_step (by repeat (first | (with_reducible first | exact HB.out | apply below_alloc | apply pw_below_drewN | apply below_drew1) | exact HB.out)) hb); have n1_ := Aside0.mk (hbox); have n2_ := Aside0.mk ((by rw [hg]; exact (below_size (by repeat (first | (with_reducible first | exact HB.out | apply below_alloc | apply pw_below_drewN | apply below_drew1) | exact HB.out))) : w.heap.size ≤ gb129)); have n3_ := Aside0.mk ((by rw [hg]; exact (below_size (by repeat (first | (with_reducible first | exact HB.out | apply below_alloc | apply pw_below_drewN | apply below_drew1) | exact HB.out))) : w.heap.size ≤ gb129)); clear HB; have HB := n0_; have BK129 := n1_; have GW129 := n2_; have GE129 := n3_; clear n0_ n1_ n2_ n3_; clear hb hbox hg; have hcz7_0 : w6.cell? ⟨gb129, 0, none⟩ = some (.int .i64 a0_0) := (blk_cell BK129.out 0).trans rfl; have hcz7_1 : w6.cell? ⟨gb129, 1, none⟩ = some (.int .i64 a0_1) := (blk_cell BK129.out 1).trans rfl; have hcz7_2 : w6.cell? ⟨gb129, 2, none⟩ = some (.int .i64 a0_2) := (blk_cell BK129.out 2).trans rfl; have hcz7_3 : w6.cell? ⟨gb129, 3, none⟩ = some (.string a0_3) := (blk_cell BK129.out 3).trans rfl; have hcz7_4 : w6.cell? ⟨gb129, 4, none⟩ = some (.string a0_4) := (blk_cell BK129.out 4).trans rfl; have hcz7_5 : w6.cell? ⟨gb129, 5, none⟩ = some (.slice A0_5 l0_5.length c0_5) := (blk_cell BK129.out 5).trans rfl; have hcz7_6 : w6.cell? ⟨gb129, 6, none⟩ = some (.slice A0_6 l0_6.length c0_6) := (blk_cell BK129.out 6).trans rfl; have hfz7_0 := blk_frozen BK129.out 0; have hfz7_1 := blk_frozen BK129.out 1; have hfz7_2 := blk_frozen BK129.out 2; have hfz7_3 := blk_frozen BK129.out 3; have hfz7_4 := blk_frozen BK129.out 4; have hfz7_5 := blk_frozen BK129.out 5; have hfz7_6 := blk_frozen BK129.out 6) | ((with_reducible refine gate_callee (f := 73) rfl ?_); refine goesL_ (some 13) rfl rfl Try.func73 (by kernel_rfl) rfl #[.agg #[.int .i64 a0_1, .int .i64 a0_2, .string a0_3, .string a0_4]] rfl (by (try simp only [List.map_toArray, List.map_cons, List.map_nil]); first | done | rfl | (simp only [List.length_drop, List.length_take]; rfl)) ?_; (with_reducible refine (spec_GoodAtom.calls k a0_1 a0_2 a0_3 a0_4 true _ A3.out).mono ?_); rintro e w8 ⟨rfl, hb⟩; refine ⟨_, rfl, ?_⟩; have n0_ := Aside0.mk (blk_below (g := gb129) (o := .cells #[.int .i64 a0_0, .int .i64 a0_1, .int .i64 a0_2, .string a0_3, .string a0_4, .slice A0_5 l0_5.length c0_5, .slice A0_6 l0_6.length c0_6] 63 (0, 0)) (by (with_reducible repeat (first | refine blk_drewN ?_ _ | refine blk_drew ?_ | refine blk_alloc ?_ _)); exact BK129.out) hb); have n1_ := Aside0.mk (below_step (by repeat (first | (with_reducible first | exact HB.out | apply below_alloc | apply pw_below_drewN | apply below_drew1 | refine below_set ?_ GE129.out) | exact HB.out)) hb); clear BK129; clear HB; have BK129 := n0_; have HB := n1_; clear n0_ n1_; (try clear hb); (try clear hb2); (try clear hk); (try clear hi); have hcz9_0 : w8.cell? ⟨gb129, 0, none⟩ = some (.int .i64 a0_0) := (blk_cell BK129.out 0).trans rfl; have hcz9_1 : w8.cell? ⟨gb129, 1, none⟩ = some (.int .i64 a0_1) := (blk_cell BK129.out 1).trans rfl; have hcz9_2 : w8.cell? ⟨gb129, 2, none⟩ = some (.int .i64 a0_2) := (blk_cell BK129.out 2).trans rfl; have hcz9_3 : w8.cell? ⟨gb129, 3, none⟩ = some (.string a0_3) := (blk_cell BK129.out 3).trans rfl; have hcz9_4 : w8.cell? ⟨gb129, 4, none⟩ = some (.string a0_4) := (blk_cell BK129.out 4).trans rfl; have hcz9_5 : w8.cell? ⟨gb129, 5, none⟩ = some (.slice A0_5 l0_5.length c0_5) := (blk_cell BK129.out 5).trans rfl; have hcz9_6 : w8.cell? ⟨gb129, 6, none⟩ = some (.slice A0_6 l0_6.length c0_6) := (blk_cell BK129.out 6).trans rfl; have hfz9_0 := blk_frozen BK129.out 0; have hfz9_1 := blk_frozen BK129.out 1; have hfz9_2 := blk_frozen BK129.out 2; have hfz9_3 := blk_frozen BK129.out 3; have hfz9_4 := blk_frozen BK129.out 4; have hfz9_5 := blk_frozen BK129.out 5; have hfz9_6 := blk_frozen BK129.out 6))
        go_ret
        exact ⟨by first | rfl | (simp [errW_none, errW_some] <;> rfl) | (simp [*, errW_none, errW_some] <;> rfl), by repeat (first | (with_reducible first | exact HB.out | apply below_alloc | apply pw_below_drewN | apply below_drew1 | refine below_set ?_ GE129.out) | exact HB.out)⟩
      · rw [if_neg c5] at H
        have c5b0 : ((l0_5.length : Int) == 0) = false := beq_eq_false_iff_ne.mpr c5
        have c5b1 : ((l0_5.length : Int) != 0) = true := bne_iff_ne.mpr c5
        have c5b2 : ¬ (l0_5 = []) := fun h_ => c5 (by rw [h_]; rfl)
        obtain rfl := Option.some.inj H
        go_enter Try.func28, Try.ntmps28
        go_wp2_with (first | ((with_reducible refine gate_dst (N := 1) rfl ?_); (try (refine gate_guard (by rfl) ?_; dsimp only)); refine box_event ?hg (N := 1) ?hd (cs := #[.int .i64 a0_0, .int .i64 a0_1, .int .i64 a0_2, .string a0_3, .string a0_4, .slice A0_5 l0_5.length c0_5, .slice A0_6 l0_6.length c0_6]) (t := 63) ?hr ?_; (case hd => rfl); (case hg => rfl); (case hr => first | (go_simp; done) | (go_simp; rfl)); intro gb129 hg w10 hbox hb; have n0_ := Aside0.mk (below_step (by repeat (first | (with_reducible first | exact HB.out | apply below_alloc | apply pw_below_drewN | apply below_drew1) | exact HB.out)) hb); have n1_ := Aside0.mk (hbox); have n2_ := Aside0.mk ((by rw [hg]; exact (below_size (by repeat (first | (with_reducible first | exact HB.out | apply below_alloc | apply pw_below_drewN | apply below_drew1) | exact HB.out))) : w.heap.size ≤ gb129)); have n3_ := Aside0.mk ((by rw [hg]; exact (below_size (by repeat (first | (with_reducible first | exact HB.out | apply below_alloc | apply pw_below_drewN | apply below_drew1) | exact HB.out))) : w.heap.size ≤ gb129)); clear HB; have HB := n0_; have BK129 := n1_; have GW129 := n2_; have GE129 := n3_; clear n0_ n1_ n2_ n3_; clear hb hbox hg; have hcz11_0 : w10.cell? ⟨gb129, 0, none⟩ = some (.int .i64 a0_0) := (blk_cell BK129.out 0).trans rfl; have hcz11_1 : w10.cell? ⟨gb129, 1, none⟩ = some (.int .i64 a0_1) := (blk_cell BK129.out 1).trans rfl; have hcz11_2 : w10.cell? ⟨gb129, 2, none⟩ = some (.int .i64 a0_2) := (blk_cell BK129.out 2).trans rfl; have hcz11_3 : w10.cell? ⟨gb129, 3, none⟩ = some (.string a0_3) := (blk_cell BK129.out 3).trans rfl; have hcz11_4 : w10.cell? ⟨gb129, 4, none⟩ = some (.string a0_4) := (blk_cell BK129.out 4).trans rfl; have hcz11_5 : w10.cell? ⟨gb129, 5, none⟩ = some (.slice A0_5 l0_5.length c0_5) := (blk_cell BK129.out 5).trans rfl; have hcz11_6 : w10.cell? ⟨gb129, 6, none⟩ = some (.slice A0_6 l0_6.length c0_6) := (blk_cell BK129.out 6).trans rfl; have hfz11_0 := blk_frozen BK129.out 0; have hfz11_1 := blk_frozen BK129.out 1; have hfz11_2 := blk_frozen BK129.out 2; have hfz11_3 := blk_frozen BK129.out 3; have hfz11_4 := blk_frozen BK129.out 4; have hfz11_5 := blk_frozen BK129.out 5; have hfz11_6 := blk_frozen BK129.out 6) | ((with_reducible refine gate_callee (f := 73) rfl ?_); refine goesL_ (some 13) rfl rfl Try.func73 (by kernel_rfl) rfl #[.agg #[.int .i64 a0_1, .int .i64 a0_2, .string a0_3, .string a0_4]] rfl (by (try simp only [List.map_toArray, List.map_cons, List.map_nil]); first | done | rfl | (simp only [List.length_drop, List.length_take]; rfl)) ?_; (with_reducible refine (spec_GoodAtom.calls k a0_1 a0_2 a0_3 a0_4 true _ A3.out).mono ?_); rintro e w12 ⟨rfl, hb⟩; refine ⟨_, rfl, ?_⟩; have n0_ := Aside0.mk (blk_below (g := gb129) (o := .cells #[.int .i64 a0_0, .int .i64 a0_1, .int .i64 a0_2, .string a0_3, .string a0_4, .slice A0_5 l0_5.length c0_5, .slice A0_6 l0_6.length c0_6] 63 (0, 0)) (by (with_reducible repeat (first | refine blk_drewN ?_ _ | refine blk_drew ?_ | refine blk_alloc ?_ _)); exact BK129.out) hb); have n1_ := Aside0.mk (below_step (by repeat (first | (with_reducible first | exact HB.out | apply below_alloc | apply pw_below_drewN | apply below_drew1 | refine below_set ?_ GE129.out) | exact HB.out)) hb); clear BK129; clear HB; have BK129 := n0_; have HB := n1_; clear n0_ n1_; (try clear hb); (try clear hb2); (try clear hk); (try clear hi); have hcz13_0 : w12.cell? ⟨gb129, 0, none⟩ = some (.int .i64 a0_0) := (blk_cell BK129.out 0).trans rfl; have hcz13_1 : w12.cell? ⟨gb129, 1, none⟩ = some (.int .i64 a0_1) := (blk_cell BK129.out 1).trans rfl; have hcz13_2 : w12.cell? ⟨gb129, 2, none⟩ = some (.int .i64 a0_2) := (blk_cell BK129.out 2).trans rfl; have hcz13_3 : w12.cell? ⟨gb129, 3, none⟩ = some (.string a0_3) := (blk_cell BK129.out 3).trans rfl; have hcz13_4 : w12.cell? ⟨gb129, 4, none⟩ = some (.string a0_4) := (blk_cell BK129.out 4).trans rfl; have hcz13_5 : w12.cell? ⟨gb129, 5, none⟩ = some (.slice A0_5 l0_5.length c0_5) := (blk_cell BK129.out 5).trans rfl; have hcz13_6 : w12.cell? ⟨gb129, 6, none⟩ = some (.slice A0_6 l0_6.length c0_6) := (blk_cell BK129.out 6).trans rfl; have hfz13_0 := blk_frozen BK129.out 0; have hfz13_1 := blk_frozen BK129.out 1; have hfz13_2 := blk_frozen BK129.out 2; have hfz13_3 := blk_frozen BK129.out 3; have hfz13_4 := blk_frozen BK129.out 4; have hfz13_5 := blk_frozen BK129.out 5; have hfz13_6 := blk_frozen BK129.out 6))
        go_ret
        exact ⟨by first | rfl | (simp [errW_none, errW_some] <;> rfl) | (simp [*, errW_none, errW_some] <;> rfl), by repeat (first | (with_reducible first | exact HB.out | apply below_alloc | apply pw_below_drewN | apply below_drew1 | refine below_set ?_ GE129.out) | exact HB.out)⟩
    · replace c4 := Bool.eq_false_iff.mpr c4
      subst c4
      have H1 : (some false) = some r := by rw [if_neg (show ¬ (false = true) by decide)] at H; exact H
      clear H
      have H := H1
      clear H1
      obtain rfl := Option.some.inj H
      go_enter Try.func28, Try.ntmps28
      go_wp2_with (first | ((with_reducible refine gate_dst (N := 1) rfl ?_); (try (refine gate_guard (by rfl) ?_; dsimp only)); refine box_event ?hg (N := 1) ?hd (cs := #[.int .i64 a0_0, .int .i64 a0_1, .int .i64 a0_2, .string a0_3, .string a0_4, .slice A0_5 l0_5.length c0_5, .slice A0_6 l0_6.length c0_6]) (t := 63) ?hr ?_; (case hd => rfl); (case hg => rfl); (case hr => first | (go_simp; done) | (go_simp; rfl)); intro gb129 hg w14 hbox hb; have n0_ := Aside0.mk (below_step (by repeat (first | (with_reducible first | exact HB.out | apply below_alloc | apply pw_below_drewN | apply below_drew1) | exact HB.out)) hb); have n1_ := Aside0.mk (hbox); have n2_ := Aside0.mk ((by rw [hg]; exact (below_size (by repeat (first | (with_reducible first | exact HB.out | apply below_alloc | apply pw_below_drewN | apply below_drew1) | exact HB.out))) : w.heap.size ≤ gb129)); have n3_ := Aside0.mk ((by rw [hg]; exact (below_size (by repeat (first | (with_reducible first | exact HB.out | apply below_alloc | apply pw_below_drewN | apply below_drew1) | exact HB.out))) : w.heap.size ≤ gb129)); clear HB; have HB := n0_; have BK129 := n1_; have GW129 := n2_; have GE129 := n3_; clear n0_ n1_ n2_ n3_; clear hb hbox hg; have hcz15_0 : w14.cell? ⟨gb129, 0, none⟩ = some (.int .i64 a0_0) := (blk_cell BK129.out 0).trans rfl; have hcz15_1 : w14.cell? ⟨gb129, 1, none⟩ = some (.int .i64 a0_1) := (blk_cell BK129.out 1).trans rfl; have hcz15_2 : w14.cell? ⟨gb129, 2, none⟩ = some (.int .i64 a0_2) := (blk_cell BK129.out 2).trans rfl; have hcz15_3 : w14.cell? ⟨gb129, 3, none⟩ = some (.string a0_3) := (blk_cell BK129.out 3).trans rfl; have hcz15_4 : w14.cell? ⟨gb129, 4, none⟩ = some (.string a0_4) := (blk_cell BK129.out 4).trans rfl; have hcz15_5 : w14.cell? ⟨gb129, 5, none⟩ = some (.slice A0_5 l0_5.length c0_5) := (blk_cell BK129.out 5).trans rfl; have hcz15_6 : w14.cell? ⟨gb129, 6, none⟩ = some (.slice A0_6 l0_6.length c0_6) := (blk_cell BK129.out 6).trans rfl; have hfz15_0 := blk_frozen BK129.out 0; have hfz15_1 := blk_frozen BK129.out 1; have hfz15_2 := blk_frozen BK129.out 2; have hfz15_3 := blk_frozen BK129.out 3; have hfz15_4 := blk_frozen BK129.out 4; have hfz15_5 := blk_frozen BK129.out 5; have hfz15_6 := blk_frozen BK129.out 6) | ((with_reducible refine gate_callee (f := 73) rfl ?_); refine goesL_ (some 13) rfl rfl Try.func73 (by kernel_rfl) rfl #[.agg #[.int .i64 a0_1, .int .i64 a0_2, .string a0_3, .string a0_4]] rfl (by (try simp only [List.map_toArray, List.map_cons, List.map_nil]); first | done | rfl | (simp only [List.length_drop, List.length_take]; rfl)) ?_; (with_reducible refine (spec_GoodAtom.calls k a0_1 a0_2 a0_3 a0_4 false _ A3.out).mono ?_); rintro e w16 ⟨rfl, hb⟩; refine ⟨_, rfl, ?_⟩; have n0_ := Aside0.mk (blk_below (g := gb129) (o := .cells #[.int .i64 a0_0, .int .i64 a0_1, .int .i64 a0_2, .string a0_3, .string a0_4, .slice A0_5 l0_5.length c0_5, .slice A0_6 l0_6.length c0_6] 63 (0, 0)) (by (with_reducible repeat (first | refine blk_drewN ?_ _ | refine blk_drew ?_ | refine blk_alloc ?_ _)); exact BK129.out) hb); have n1_ := Aside0.mk (below_step (by repeat (first | (with_reducible first | exact HB.out | apply below_alloc | apply pw_below_drewN | apply below_drew1 | refine below_set ?_ GE129.out) | exact HB.out)) hb); clear BK129; clear HB; have BK129 := n0_; have HB := n1_; clear n0_ n1_; (try clear hb); (try clear hb2); (try clear hk); (try clear hi)))
      go_ret
      exact ⟨by first | rfl | (simp [errW_none, errW_some] <;> rfl) | (simp [*, errW_none, errW_some] <;> rfl), by repeat (first | (with_reducible first | exact HB.out | apply below_alloc | apply pw_below_drewN | apply below_drew1 | refine below_set ?_ GE129.out) | exact HB.out)⟩
  · rw [if_neg c2] at H
    have c2b0 : (a0_0 == 1) = false := beq_eq_false_iff_ne.mpr c2
    have c2b1 : (a0_0 != 1) = true := bne_iff_ne.mpr c2
    have HC17 := Aside0.mk H
    clear H
    go_enter Try.func28, Try.ntmps28
    go_upto_if 26 with (first | ((with_reducible refine gate_dst (N := 1) rfl ?_); (try (refine gate_guard (by rfl) ?_; dsimp only)); refine box_event ?hg (N := 1) ?hd (cs := #[.int .i64 a0_0, .int .i64 a0_1, .int .i64 a0_2, .string a0_3, .string a0_4, .slice A0_5 l0_5.length c0_5, .slice A0_6 l0_6.length c0_6]) (t := 63) ?hr ?_; (case hd => rfl); (case hg => rfl); (case hr => first | (go_simp; done) | (go_simp; rfl)); intro gb129 hg w18 hbox hb; have n0_ := Aside0.mk (below_step (by repeat (first | (with_reducible first | exact HB.out | apply below_alloc | apply pw_below_drewN | apply below_drew1) | exact HB.out)) hb); have n1_ := Aside0.mk (hbox); have n2_ := Aside0.mk ((by rw [hg]; exact (below_size (by repeat (first | (with_reducible first | exact HB.out | apply below_alloc | apply pw_below_drewN | apply below_drew1) | exact HB.out))) : w.heap.size ≤ gb129)); have n3_ := Aside0.mk ((by rw [hg]; exact (below_size (by repeat (first | (with_reducible first | exact HB.out | apply below_alloc | apply pw_below_drewN | apply below_drew1) | exact HB.out))) : w.heap.size ≤ gb129)); clear HB; have HB := n0_; have BK129 := n1_; have GW129 := n2_; have GE129 := n3_; clear n0_ n1_ n2_ n3_; clear hb hbox hg; have hcz19_0 : w18.cell? ⟨gb129, 0, none⟩ = some (.int .i64 a0_0) := (blk_cell BK129.out 0).trans rfl; have hcz19_1 : w18.cell? ⟨gb129, 1, none⟩ = some (.int .i64 a0_1) := (blk_cell BK129.out 1).trans rfl; have hcz19_2 : w18.cell? ⟨gb129, 2, none⟩ = some (.int .i64 a0_2) := (blk_cell BK129.out 2).trans rfl; have hcz19_3 : w18.cell? ⟨gb129, 3, none⟩ = some (.string a0_3) := (blk_cell BK129.out 3).trans rfl; have hcz19_4 : w18.cell? ⟨gb129, 4, none⟩ = some (.string a0_4) := (blk_cell BK129.out 4).trans rfl; have hcz19_5 : w18.cell? ⟨gb129, 5, none⟩ = some (.slice A0_5 l0_5.length c0_5) := (blk_cell BK129.out 5).trans rfl; have hcz19_6 : w18.cell? ⟨gb129, 6, none⟩ = some (.slice A0_6 l0_6.length c0_6) := (blk_cell BK129.out 6).trans rfl; have hfz19_0 := blk_frozen BK129.out 0; have hfz19_1 := blk_frozen BK129.out 1; have hfz19_2 := blk_frozen BK129.out 2; have hfz19_3 := blk_frozen BK129.out 3; have hfz19_4 := blk_frozen BK129.out 4; have hfz19_5 := blk_frozen BK129.out 5; have hfz19_6 := blk_frozen BK129.out 6))
    (try simp only [Act.put, List.setIfInBounds_toArray, List.set_cons_zero, List.set_cons_succ])
    go_cut [26] (fun v26 wc => ∃ (kq : Nat) (x26_16 : Bool), v26 = .bool x26_16 ∧ Aside0 (spec_GoodValue.j0 kq x26_16 a0_0 a0_1 a0_2 a0_3 a0_4 l0_5 l0_6 = some r) ∧ Aside0 (kq ≤ k) ∧ Aside0 (wc.heap[gb129]? = some (.cells #[.int .i64 a0_0, .int .i64 a0_1, .int .i64 a0_2, .string a0_3, .string a0_4, (.slice A0_5 l0_5.length c0_5), (.slice A0_6 l0_6.length c0_6)] 63 (0, 0))) ∧ Aside0 (Below w.heap.size w wc))
    case first =>
      have H := HC17.out
      clear HC17
      by_cases c20 : a0_0 = 2
      · rw [if_pos c20] at H
        have c20b0 : (a0_0 == 2) = true := beq_iff_eq.mpr c20
        have c20b1 : (a0_0 != 2) = false := bne_eq_false_iff_eq.mpr c20
        clear c20
        (first | rw [c20b0] | (simp only [i64_w, i32_w]; rw [c20b0]) | skip)
        have H' := Aside0.mk H
        clear H
        go_wp2
        go_meet
        case rel => exact ⟨_, ((a0_0 == 2)), (by first | rfl | (simp; done) | (simp [pw_ne_nil, pw_eq_nil]; done) | (simp [*]; done)), H', ⟨by first | omega | exact Nat.le_refl _⟩, ⟨by (with_reducible repeat (first | refine blk_drewN ?_ _ | refine blk_drew ?_ | refine blk_alloc ?_ _)); exact BK129.out⟩, ⟨by repeat (first | (with_reducible first | exact HB.out | apply below_alloc | apply pw_below_drewN | apply below_drew1 | refine below_set ?_ GE129.out) | exact HB.out)⟩⟩
      · rw [if_neg c20] at H
        have c20b0 : (a0_0 == 2) = false := beq_eq_false_iff_ne.mpr c20
        have c20b1 : (a0_0 != 2) = true := bne_iff_ne.mpr c20
        (first | rw [c20b0] | (simp only [i64_w, i32_w]; rw [c20b0]) | skip)
        have H' := Aside0.mk H
        clear H
        go_wp2
        go_meet
        case rel => exact ⟨_, ((a0_0 == 3)), (by first | rfl | (simp; done) | (simp [pw_ne_nil, pw_eq_nil]; done) | (simp [*]; done)), H', ⟨by first | omega | exact Nat.le_refl _⟩, ⟨by (with_reducible repeat (first | refine blk_drewN ?_ _ | refine blk_drew ?_ | refine blk_alloc ?_ _)); exact BK129.out⟩, ⟨by repeat (first | (with_reducible first | exact HB.out | apply below_alloc | apply pw_below_drewN | apply below_drew1 | refine below_set ?_ GE129.out) | exact HB.out)⟩⟩
    case rest =>
      clear HC17
      try clear c2
      try clear c2b0
      try clear c2b1
      try clear p2
      try clear c4
      try clear c5
      try clear c5b0
      try clear c5b1
      try clear c5b2
      try clear c7
      try clear c20
      try clear c20b0
      try clear c20b1
      try clear hcz11_0
      try clear hcz11_1
      try clear hcz11_2
      try clear hcz11_3
      try clear hcz11_4
      try clear hcz11_5
      try clear hcz11_6
      try clear hcz13_0
      try clear hcz13_1
      try clear hcz13_2
      try clear hcz13_3
      try clear hcz13_4
      try clear hcz13_5
      try clear hcz13_6
      try clear hcz15_0
      try clear hcz15_1
      try clear hcz15_2
      try clear hcz15_3
      try clear hcz15_4
      try clear hcz15_5
      try clear hcz15_6
      try clear hcz19_0
      try clear hcz19_1
      try clear hcz19_2
      try clear hcz19_3
      try clear hcz19_4
      try clear hcz19_5
      try clear hcz19_6
      try clear hcz7_0
      try clear hcz7_1
      try clear hcz7_2
      try clear hcz7_3
      try clear hcz7_4
      try clear hcz7_5
      try clear hcz7_6
      try clear hcz9_0
      try clear hcz9_1
      try clear hcz9_2
      try clear hcz9_3
      try clear hcz9_4
      try clear hcz9_5
      try clear hcz9_6
      try clear hfz11_0
      try clear hfz11_1
      try clear hfz11_2
      try clear hfz11_3
      try clear hfz11_4
      try clear hfz11_5
      try clear hfz11_6
      try clear hfz13_0
      try clear hfz13_1
      try clear hfz13_2
      try clear hfz13_3
      try clear hfz13_4
      try clear hfz13_5
      try clear hfz13_6
      try clear hfz15_0
      try clear hfz15_1
      try clear hfz15_2
      try clear hfz15_3
      try clear hfz15_4
      try clear hfz15_5
      try clear hfz15_6
      try clear hfz19_0
      try clear hfz19_1
      try clear hfz19_2
      try clear hfz19_3
      try clear hfz19_4
      try clear hfz19_5
      try clear hfz19_6
      try clear hfz7_0
      try clear hfz7_1
      try clear hfz7_2
      try clear hfz7_3
      try clear hfz7_4
      try clear hfz7_5
      try clear hfz7_6
      try clear hfz9_0
      try clear hfz9_1
      try clear hfz9_2
      try clear hfz9_3
      try clear hfz9_4
      try clear hfz9_5
      try clear hfz9_6
      obtain ⟨kq, x26_16, rfl, HA, HJ16, BK129, HB⟩ := hcut
      cases kq with
      | zero => exact absurd HA.out (by simp [spec_GoodValue.j0])
      | succ kj16 =>
        have H := HA.out
        clear HA
        simp only [spec_GoodValue.j0] at H
        by_cases c21 : x26_16 = true
        · subst c21
          have H1 : (if (!(a0_1 == 0) || (!(a0_2 == 0) || (!(a0_3.toList == ([] : List UInt8)) || (!(a0_4.toList == ([] : List UInt8)))))) = true then (spec_GoodValue.j1 kj16 true a0_0 a0_1 a0_2 a0_3 a0_4 l0_5 l0_6) else (spec_GoodValue.j1 kj16 (decide ((l0_5.length : Int) > 50)) a0_0 a0_1 a0_2 a0_3 a0_4 l0_5 l0_6)) = some r := by rw [if_pos rfl] at H; exact H
          clear H
          have H := H1
          clear H1
          have HC22 := Aside0.mk H
          clear H
          go_upto_region 6 with (fail)
          go_cut [38] (fun v38 wc => ∃ (kq : Nat) (x38_21 : Bool), v38 = .bool x38_21 ∧ Aside0 (spec_GoodValue.j1 kq x38_21 a0_0 a0_1 a0_2 a0_3 a0_4 l0_5 l0_6 = some r) ∧ Aside0 (kq ≤ kj16) ∧ Aside0 (wc.heap[gb129]? = some (.cells #[.int .i64 a0_0, .int .i64 a0_1, .int .i64 a0_2, .string a0_3, .string a0_4, (.slice A0_5 l0_5.length c0_5), (.slice A0_6 l0_6.length c0_6)] 63 (0, 0))) ∧ Aside0 (Below w.heap.size w wc))
          case first =>
            have H := HC22.out
            clear HC22
            by_cases c23 : (!(a0_1 == 0) || (!(a0_2 == 0) || (!(a0_3.toList == ([] : List UInt8)) || (!(a0_4.toList == ([] : List UInt8)))))) = true
            · rw [if_pos c23] at H
              have c23b0 : (!(a0_1 == 0) || (!(a0_2 == 0) || (!(a0_3.toList == ([] : List UInt8)) || (!(a0_4.toList == ([] : List UInt8)))))) = true := c23
              clear c23
              (first | rw [c23b0] | (simp only [i64_w, i32_w]; rw [c23b0]) | skip)
              have H' := Aside0.mk H
              clear H
              have hcz24_0 : wc.cell? ⟨gb129, 0, none⟩ = some (.int .i64 a0_0) := (blk_cell BK129.out 0).trans rfl
              have hcz24_1 : wc.cell? ⟨gb129, 1, none⟩ = some (.int .i64 a0_1) := (blk_cell BK129.out 1).trans rfl
              have hcz24_2 : wc.cell? ⟨gb129, 2, none⟩ = some (.int .i64 a0_2) := (blk_cell BK129.out 2).trans rfl
              have hcz24_3 : wc.cell? ⟨gb129, 3, none⟩ = some (.string a0_3) := (blk_cell BK129.out 3).trans rfl
              have hcz24_4 : wc.cell? ⟨gb129, 4, none⟩ = some (.string a0_4) := (blk_cell BK129.out 4).trans rfl
              have hcz24_5 : wc.cell? ⟨gb129, 5, none⟩ = some (.slice A0_5 l0_5.length c0_5) := (blk_cell BK129.out 5).trans rfl
              have hcz24_6 : wc.cell? ⟨gb129, 6, none⟩ = some (.slice A0_6 l0_6.length c0_6) := (blk_cell BK129.out 6).trans rfl
              have hfz24_0 := blk_frozen BK129.out 0
              have hfz24_1 := blk_frozen BK129.out 1
              have hfz24_2 := blk_frozen BK129.out 2
              have hfz24_3 := blk_frozen BK129.out 3
              have hfz24_4 := blk_frozen BK129.out 4
              have hfz24_5 := blk_frozen BK129.out 5
              have hfz24_6 := blk_frozen BK129.out 6
              go_wp2
              all_goals try (exfalso; rename_i hq; first | (simp [hq] at c23b0; done) | (apply hq; simpa using c23b0; done) | (apply hq; simpa using h; done))
              go_meet
              case rel => exact ⟨_, (true), (by first | rfl | (simp; done) | (simp [pw_ne_nil, pw_eq_nil]; done) | (simp [*]; done)), H', ⟨by have := HJ16.out; first | omega | exact Nat.le_refl _⟩, ⟨by (with_reducible repeat (first | refine blk_drewN ?_ _ | refine blk_drew ?_ | refine blk_alloc ?_ _)); exact BK129.out⟩, ⟨by repeat (first | (with_reducible first | exact HB.out | apply below_alloc | apply pw_below_drewN | apply below_drew1 | refine below_set ?_ GE129.out) | exact HB.out)⟩⟩
            · rw [if_neg c23] at H
              have c23b0 : (!(a0_1 == 0) || (!(a0_2 == 0) || (!(a0_3.toList == ([] : List UInt8)) || (!(a0_4.toList == ([] : List UInt8)))))) = false := by simpa using c23
              obtain rfl : a0_1 = 0 := by simp at c23b0; exact c23b0.1
              obtain rfl : a0_2 = 0 := by simp at c23b0; exact c23b0.1
              clear c23
              (first | rw [c23b0] | (simp only [i64_w, i32_w]; rw [c23b0]) | skip)
              have H' := Aside0.mk H
              clear H
              have hcz25_0 : wc.cell? ⟨gb129, 0, none⟩ = some (.int .i64 a0_0) := (blk_cell BK129.out 0).trans rfl
              have hcz25_1 : wc.cell? ⟨gb129, 1, none⟩ = some (.int .i64 0) := (blk_cell BK129.out 1).trans rfl
              have hcz25_2 : wc.cell? ⟨gb129, 2, none⟩ = some (.int .i64 0) := (blk_cell BK129.out 2).trans rfl
              have hcz25_3 : wc.cell? ⟨gb129, 3, none⟩ = some (.string a0_3) := (blk_cell BK129.out 3).trans rfl
              have hcz25_4 : wc.cell? ⟨gb129, 4, none⟩ = some (.string a0_4) := (blk_cell BK129.out 4).trans rfl
              have hcz25_5 : wc.cell? ⟨gb129, 5, none⟩ = some (.slice A0_5 l0_5.length c0_5) := (blk_cell BK129.out 5).trans rfl
              have hcz25_6 : wc.cell? ⟨gb129, 6, none⟩ = some (.slice A0_6 l0_6.length c0_6) := (blk_cell BK129.out 6).trans rfl
              have hfz25_0 := blk_frozen BK129.out 0
              have hfz25_1 := blk_frozen BK129.out 1
              have hfz25_2 := blk_frozen BK129.out 2
              have hfz25_3 := blk_frozen BK129.out 3
              have hfz25_4 := blk_frozen BK129.out 4
              have hfz25_5 := blk_frozen BK129.out 5
              have hfz25_6 := blk_frozen BK129.out 6
              go_wp2
              all_goals try (exfalso; rename_i hq; first | (simp [hq] at c23b0; done) | (apply hq; simpa using c23b0; done) | (apply hq; simpa using h; done))
              go_meet
              case rel => exact ⟨_, (decide ((l0_5.length : Int) > 50)), (by first | rfl | (simp; done) | (simp [pw_ne_nil, pw_eq_nil]; done) | (simp [*]; done)), H', ⟨by have := HJ16.out; first | omega | exact Nat.le_refl _⟩, ⟨by (with_reducible repeat (first | refine blk_drewN ?_ _ | refine blk_drew ?_ | refine blk_alloc ?_ _)); exact BK129.out⟩, ⟨by repeat (first | (with_reducible first | exact HB.out | apply below_alloc | apply pw_below_drewN | apply below_drew1 | refine below_set ?_ GE129.out) | exact HB.out)⟩⟩
          case rest =>
            clear HC22
            try clear c2
            try clear c2b0
            try clear c2b1
            try clear p2
            try clear c4
            try clear c5
            try clear c5b0
            try clear c5b1
            try clear c5b2
            try clear c7
            try clear c20
            try clear c20b0
            try clear c20b1
            try clear c21
            try clear c23
            try clear c23b0
            try clear hcz11_0
            try clear hcz11_1
            try clear hcz11_2
            try clear hcz11_3
            try clear hcz11_4
            try clear hcz11_5
            try clear hcz11_6
            try clear hcz13_0
            try clear hcz13_1
            try clear hcz13_2
            try clear hcz13_3
            try clear hcz13_4
            try clear hcz13_5
            try clear hcz13_6
            try clear hcz15_0
            try clear hcz15_1
            try clear hcz15_2
            try clear hcz15_3
            try clear hcz15_4
            try clear hcz15_5
            try clear hcz15_6
            try clear hcz19_0
            try clear hcz19_1
            try clear hcz19_2
            try clear hcz19_3
            try clear hcz19_4
            try clear hcz19_5
            try clear hcz19_6
            try clear hcz24_0
            try clear hcz24_1
            try clear hcz24_2
            try clear hcz24_3
            try clear hcz24_4
            try clear hcz24_5
            try clear hcz24_6
            try clear hcz25_0
            try clear hcz25_1
            try clear hcz25_2
            try clear hcz25_3
            try clear hcz25_4
            try clear hcz25_5
            try clear hcz25_6
            try clear hcz7_0
            try clear hcz7_1
            try clear hcz7_2
            try clear hcz7_3
            try clear hcz7_4
            try clear hcz7_5
            try clear hcz7_6
            try clear hcz9_0
            try clear hcz9_1
            try clear hcz9_2
            try clear hcz9_3
            try clear hcz9_4
            try clear hcz9_5
            try clear hcz9_6
            try clear hfz11_0
            try clear hfz11_1
            try clear hfz11_2
            try clear hfz11_3
            try clear hfz11_4
            try clear hfz11_5
            try clear hfz11_6
            try clear hfz13_0
            try clear hfz13_1
            try clear hfz13_2
            try clear hfz13_3
            try clear hfz13_4
            try clear hfz13_5
            try clear hfz13_6
            try clear hfz15_0
            try clear hfz15_1
            try clear hfz15_2
            try clear hfz15_3
            try clear hfz15_4
            try clear hfz15_5
            try clear hfz15_6
            try clear hfz19_0
            try clear hfz19_1
            try clear hfz19_2
            try clear hfz19_3
            try clear hfz19_4
            try clear hfz19_5
            try clear hfz19_6
            try clear hfz24_0
            try clear hfz24_1
            try clear hfz24_2
            try clear hfz24_3
            try clear hfz24_4
            try clear hfz24_5
            try clear hfz24_6
            try clear hfz25_0
            try clear hfz25_1
            try clear hfz25_2
            try clear hfz25_3
            try clear hfz25_4
            try clear hfz25_5
            try clear hfz25_6
            try clear hfz7_0
            try clear hfz7_1
            try clear hfz7_2
            try clear hfz7_3
            try clear hfz7_4
            try clear hfz7_5
            try clear hfz7_6
            try clear hfz9_0
            try clear hfz9_1
            try clear hfz9_2
            try clear hfz9_3
            try clear hfz9_4
            try clear hfz9_5
            try clear hfz9_6
            try clear p2
            obtain ⟨kq, x38_21, rfl, HA, HJ21, BK129, HB⟩ := hcut
            cases kq with
            | zero => exact absurd HA.out (by simp [spec_GoodValue.j1])
            | succ kj21 =>
              have H := HA.out
              clear HA
              simp only [spec_GoodValue.j1] at H
              by_cases c26 : x38_21 = true
              · subst c26
                have H1 : (some false) = some r := by rw [if_pos rfl] at H; exact H
                clear H
                have H := H1
                clear H1
                obtain rfl := Option.some.inj H
                go_wp2
                go_ret
                exact ⟨by first | rfl | (simp [errW_none, errW_some] <;> rfl) | (simp [*, errW_none, errW_some] <;> rfl), by repeat (first | (with_reducible first | exact HB.out | apply below_alloc | apply pw_below_drewN | apply below_drew1 | refine below_set ?_ GE129.out) | exact HB.out)⟩
              · replace c26 := Bool.eq_false_iff.mpr c26
                subst c26
                have H1 : (spec_GoodValue.l0 kj21 l0_5 (l0_5.length : Int) 0 a0_0 a0_1 a0_2 a0_3 a0_4 l0_5 l0_6) = some r := by rw [if_neg (show ¬ (false = true) by decide)] at H; exact H
                clear H
                have H := H1
                clear H1
                have H' := Aside0.mk H
                clear H
                have hcz27_0 : wc.cell? ⟨gb129, 0, none⟩ = some (.int .i64 a0_0) := (blk_cell BK129.out 0).trans rfl
                have hcz27_1 : wc.cell? ⟨gb129, 1, none⟩ = some (.int .i64 a0_1) := (blk_cell BK129.out 1).trans rfl
                have hcz27_2 : wc.cell? ⟨gb129, 2, none⟩ = some (.int .i64 a0_2) := (blk_cell BK129.out 2).trans rfl
                have hcz27_3 : wc.cell? ⟨gb129, 3, none⟩ = some (.string a0_3) := (blk_cell BK129.out 3).trans rfl
                have hcz27_4 : wc.cell? ⟨gb129, 4, none⟩ = some (.string a0_4) := (blk_cell BK129.out 4).trans rfl
                have hcz27_5 : wc.cell? ⟨gb129, 5, none⟩ = some (.slice A0_5 l0_5.length c0_5) := (blk_cell BK129.out 5).trans rfl
                have hcz27_6 : wc.cell? ⟨gb129, 6, none⟩ = some (.slice A0_6 l0_6.length c0_6) := (blk_cell BK129.out 6).trans rfl
                have hfz27_0 := blk_frozen BK129.out 0
                have hfz27_1 := blk_frozen BK129.out 1
                have hfz27_2 := blk_frozen BK129.out 2
                have hfz27_3 := blk_frozen BK129.out 3
                have hfz27_4 := blk_frozen BK129.out 4
                have hfz27_5 := blk_frozen BK129.out 5
                have hfz27_6 := blk_frozen BK129.out 6
                go_wp2
                go_loopg [42] kj21 (fun kq v42 w' => ∃ (x42_3 : Int), v42 = .int .i64 x42_3 ∧ Aside0 (spec_GoodValue.l0 kq l0_5 (l0_5.length : Int) x42_3 a0_0 a0_1 a0_2 a0_3 a0_4 l0_5 l0_6 = some r) ∧ Aside0 (kq ≤ kj21) ∧ Aside0 (w'.heap[gb129]? = some (.cells #[.int .i64 a0_0, .int .i64 a0_1, .int .i64 a0_2, .string a0_3, .string a0_4, (.slice A0_5 l0_5.length c0_5), (.slice A0_6 l0_6.length c0_6)] 63 (0, 0))) ∧ Aside0 (Below w.heap.size w w'))
                case atStart => exact ⟨(0), (by first | rfl | (simp; done) | (simp [pw_ne_nil, pw_eq_nil]; done) | (simp [*]; done)), H', ⟨Nat.le_refl _⟩, ⟨by (with_reducible repeat (first | refine blk_drewN ?_ _ | refine blk_drew ?_ | refine blk_alloc ?_ _)); exact BK129.out⟩, ⟨by repeat (first | (with_reducible first | exact HB.out | apply below_alloc | apply pw_below_drewN | apply below_drew1 | refine below_set ?_ GE129.out) | exact HB.out)⟩⟩
                case round =>
                  clear H'
                  try clear c2
                  try clear c2b0
                  try clear c2b1
                  try clear p2
                  try clear c4
                  try clear c5
                  try clear c5b0
                  try clear c5b1
                  try clear c5b2
                  try clear c7
                  try clear c20
                  try clear c20b0
                  try clear c20b1
                  try clear c21
                  try clear c23
                  try clear c23b0
                  try clear c26
                  try clear hcz11_0
                  try clear hcz11_1
                  try clear hcz11_2
                  try clear hcz11_3
                  try clear hcz11_4
                  try clear hcz11_5
                  try clear hcz11_6
                  try clear hcz13_0
                  try clear hcz13_1
                  try clear hcz13_2
                  try clear hcz13_3
                  try clear hcz13_4
                  try clear hcz13_5
                  try clear hcz13_6
                  try clear hcz15_0
                  try clear hcz15_1
                  try clear hcz15_2
                  try clear hcz15_3
                  try clear hcz15_4
                  try clear hcz15_5
                  try clear hcz15_6
                  try clear hcz19_0
                  try clear hcz19_1
                  try clear hcz19_2
                  try clear hcz19_3
                  try clear hcz19_4
                  try clear hcz19_5
                  try clear hcz19_6
                  try clear hcz24_0
                  try clear hcz24_1
                  try clear hcz24_2
                  try clear hcz24_3
                  try clear hcz24_4
                  try clear hcz24_5
                  try clear hcz24_6
                  try clear hcz25_0
                  try clear hcz25_1
                  try clear hcz25_2
                  try clear hcz25_3
                  try clear hcz25_4
                  try clear hcz25_5
                  try clear hcz25_6
                  try clear hcz27_0
                  try clear hcz27_1
                  try clear hcz27_2
                  try clear hcz27_3
                  try clear hcz27_4
                  try clear hcz27_5
                  try clear hcz27_6
                  try clear hcz7_0
                  try clear hcz7_1
                  try clear hcz7_2
                  try clear hcz7_3
                  try clear hcz7_4
                  try clear hcz7_5
                  try clear hcz7_6
                  try clear hcz9_0
                  try clear hcz9_1
                  try clear hcz9_2
                  try clear hcz9_3
                  try clear hcz9_4
                  try clear hcz9_5
                  try clear hcz9_6
                  try clear hfz11_0
                  try clear hfz11_1
                  try clear hfz11_2
                  try clear hfz11_3
                  try clear hfz11_4
                  try clear hfz11_5
                  try clear hfz11_6
                  try clear hfz13_0
                  try clear hfz13_1
                  try clear hfz13_2
                  try clear hfz13_3
                  try clear hfz13_4
                  try clear hfz13_5
                  try clear hfz13_6
                  try clear hfz15_0
                  try clear hfz15_1
                  try clear hfz15_2
                  try clear hfz15_3
                  try clear hfz15_4
                  try clear hfz15_5
                  try clear hfz15_6
                  try clear hfz19_0
                  try clear hfz19_1
                  try clear hfz19_2
                  try clear hfz19_3
                  try clear hfz19_4
                  try clear hfz19_5
                  try clear hfz19_6
                  try clear hfz24_0
                  try clear hfz24_1
                  try clear hfz24_2
                  try clear hfz24_3
                  try clear hfz24_4
                  try clear hfz24_5
                  try clear hfz24_6
                  try clear hfz25_0
                  try clear hfz25_1
                  try clear hfz25_2
                  try clear hfz25_3
                  try clear hfz25_4
                  try clear hfz25_5
                  try clear hfz25_6
                  try clear hfz27_0
                  try clear hfz27_1
                  try clear hfz27_2
                  try clear hfz27_3
                  try clear hfz27_4
                  try clear hfz27_5
                  try clear hfz27_6
                  try clear hfz7_0
                  try clear hfz7_1
                  try clear hfz7_2
                  try clear hfz7_3
                  try clear hfz7_4
                  try clear hfz7_5
                  try clear hfz7_6
                  try clear hfz9_0
                  try clear hfz9_1
                  try clear hfz9_2
                  try clear hfz9_3
                  try clear hfz9_4
                  try clear hfz9_5
                  try clear hfz9_6
                  try clear p2
                  obtain ⟨x42_3, rfl, HA, HK3, BK129, HB⟩ := hrel
                  cases gk with
                  | zero => exact absurd HA.out (by simp [spec_GoodValue.l0])
                  | succ k3 =>
                    have H := HA.out
                    clear HA
                    simp only [spec_GoodValue.l0] at H
                    by_cases c28 : x42_3 < (l0_5.length : Int)
                    · rw [if_pos c28] at H
                      have c28b0 : decide (x42_3 < (l0_5.length : Int)) = true := decide_eq_true c28
                      clear c28
                      by_cases c29 : 0 ≤ x42_3
                      · rw [if_pos c29] at H
                        have c29b0 : decide (0 ≤ x42_3) = true := decide_eq_true c29
                        clear c29
                        by_cases c30 : x42_3 < (l0_5.length : Int)
                        · rw [if_pos c30] at H
                          have c30b0 : decide (x42_3 < (l0_5.length : Int)) = true := decide_eq_true c30
                          clear c30
                          replace H := Option.bind_eq_some_iff.mp H
                          obtain ⟨t133, A310, H⟩ := H
                          replace H : (if t133 = true then (if a0_0 = 2 then (if x42_3 > 0 then (if 0 ≤ (wrap64 (x42_3 - 1)) then (if (wrap64 (x42_3 - 1)) < (l0_5.length : Int) then ((spec_l1Cmp.f k3 ((rd_T60 l0_5 (wrap64 (x42_3 - 1))).f0) ((rd_T60 l0_5 (wrap64 (x42_3 - 1))).f1) ((rd_T60 l0_5 (wrap64 (x42_3 - 1))).f2) ((rd_T60 l0_5 (wrap64 (x42_3 - 1))).f3) ((rd_T60 l0_5 x42_3).f0) ((rd_T60 l0_5 x42_3).f1) ((rd_T60 l0_5 x42_3).f2) ((rd_T60 l0_5 x42_3).f3)).bind fun t135 => (if t135 ≥ 0 then (some false) else (spec_GoodValue.l0 k3 l0_5 (l0_5.length : Int) (wrap64 (x42_3 + 1)) a0_0 a0_1 a0_2 a0_3 a0_4 l0_5 l0_6))) else (none)) else (none)) else (spec_GoodValue.l0 k3 l0_5 (l0_5.length : Int) (wrap64 (x42_3 + 1)) a0_0 a0_1 a0_2 a0_3 a0_4 l0_5 l0_6)) else (spec_GoodValue.l0 k3 l0_5 (l0_5.length : Int) (wrap64 (x42_3 + 1)) a0_0 a0_1 a0_2 a0_3 a0_4 l0_5 l0_6)) else (some false)) = some r := H
                          have A31 := Aside0.mk A310
                          clear A310
                          by_cases c32 : t133 = true
                          · subst c32
                            have H1 : (if a0_0 = 2 then (if x42_3 > 0 then (if 0 ≤ (wrap64 (x42_3 - 1)) then (if (wrap64 (x42_3 - 1)) < (l0_5.length : Int) then ((spec_l1Cmp.f k3 ((rd_T60 l0_5 (wrap64 (x42_3 - 1))).f0) ((rd_T60 l0_5 (wrap64 (x42_3 - 1))).f1) ((rd_T60 l0_5 (wrap64 (x42_3 - 1))).f2) ((rd_T60 l0_5 (wrap64 (x42_3 - 1))).f3) ((rd_T60 l0_5 x42_3).f0) ((rd_T60 l0_5 x42_3).f1) ((rd_T60 l0_5 x42_3).f2) ((rd_T60 l0_5 x42_3).f3)).bind fun t135 => (if t135 ≥ 0 then (some false) else (spec_GoodValue.l0 k3 l0_5 (l0_5.length : Int) (wrap64 (x42_3 + 1)) a0_0 a0_1 a0_2 a0_3 a0_4 l0_5 l0_6))) else (none)) else (none)) else (spec_GoodValue.l0 k3 l0_5 (l0_5.length : Int) (wrap64 (x42_3 + 1)) a0_0 a0_1 a0_2 a0_3 a0_4 l0_5 l0_6)) else (spec_GoodValue.l0 k3 l0_5 (l0_5.length : Int) (wrap64 (x42_3 + 1)) a0_0 a0_1 a0_2 a0_3 a0_4 l0_5 l0_6)) = some r := by rw [if_pos rfl] at H; exact H
                            clear H
                            have H := H1
                            clear H1
                            by_cases c33 : a0_0 = 2
                            · rw [if_pos c33] at H
                              have c33b0 : (a0_0 == 2) = true := beq_iff_eq.mpr c33
                              have c33b1 : (a0_0 != 2) = false := bne_eq_false_iff_eq.mpr c33
                              clear c33
                              by_cases c34 : x42_3 > 0
                              · rw [if_pos c34] at H
                                have c34b0 : decide (0 < x42_3) = true := decide_eq_true c34
                                clear c34
                                obtain ⟨ji35, hji35⟩ : ∃ j_ : Int, (wrap64 (x42_3 - 1)) = j_ := ⟨_, rfl⟩
                                replace H : (if 0 ≤ (ji35) then (if (ji35) < (l0_5.length : Int) then ((spec_l1Cmp.f k3 ((rd_T60 l0_5 (ji35)).f0) ((rd_T60 l0_5 (ji35)).f1) ((rd_T60 l0_5 (ji35)).f2) ((rd_T60 l0_5 (ji35)).f3) ((rd_T60 l0_5 x42_3).f0) ((rd_T60 l0_5 x42_3).f1) ((rd_T60 l0_5 x42_3).f2) ((rd_T60 l0_5 x42_3).f3)).bind fun t135 => (if t135 ≥ 0 then (some false) else (spec_GoodValue.l0 k3 l0_5 (l0_5.length : Int) (wrap64 (x42_3 + 1)) a0_0 a0_1 a0_2 a0_3 a0_4 l0_5 l0_6))) else (none)) else (none)) = some r := by first | (rw [hji35] at H; exact H) | (simp only [hji35] at H ⊢; exact H)
                                (try rw [hji35] at A31)
                                have hji35w : (IntKind.i64.wrap (x42_3 - 1)) = ji35 := (i64_w _).trans hji35
                                by_cases c36 : 0 ≤ (ji35)
                                · rw [if_pos c36] at H
                                  have c36b0 : decide (0 ≤ (ji35)) = true := decide_eq_true c36
                                  clear c36
                                  by_cases c37 : (ji35) < (l0_5.length : Int)
                                  · rw [if_pos c37] at H
                                    have c37b0 : decide ((ji35) < (l0_5.length : Int)) = true := decide_eq_true c37
                                    clear c37
                                    replace H := Option.bind_eq_some_iff.mp H
                                    obtain ⟨t135, A380, H⟩ := H
                                    replace H : (if t135 ≥ 0 then (some false) else (spec_GoodValue.l0 k3 l0_5 (l0_5.length : Int) (wrap64 (x42_3 + 1)) a0_0 a0_1 a0_2 a0_3 a0_4 l0_5 l0_6)) = some r := H
                                    have A38 := Aside0.mk A380
                                    clear A380
                                    by_cases c39 : t135 ≥ 0
                                    · rw [if_pos c39] at H
                                      have c39b0 : decide (0 ≤ t135) = true := decide_eq_true c39
                                      clear c39
                                      obtain rfl := Option.some.inj H
                                      have p131 : 0 ≤ (x42_3 : Int) := of_decide_eq_true (by first | (with_reducible assumption) | assumption)
                                      have q131 : x42_3 < (l0_5.length : Int) := of_decide_eq_true (by first | (with_reducible assumption) | assumption)
                                      obtain ⟨ad131, e131, hx131_0, hx131_1, hx131_2, hx131_3⟩ := at_T60 HR0_5.out x42_3 p131 q131
                                      cases e131
                                      replace hx131_0 := (HB.out.cell (World.block_lt_of_cell? w _ hx131_0)).trans hx131_0
                                      replace hx131_1 := (HB.out.cell (World.block_lt_of_cell? w _ hx131_1)).trans hx131_1
                                      replace hx131_2 := (HB.out.cell (World.block_lt_of_cell? w _ hx131_2)).trans hx131_2
                                      replace hx131_3 := (HB.out.cell (World.block_lt_of_cell? w _ hx131_3)).trans hx131_3
                                      replace p131 := eq_true p131
                                      replace q131 := eq_true q131
                                      try go_wp2_with (first | ((with_reducible refine gate_dst (N := 4) rfl ?_); (try (refine gate_guard (by rfl) ?_; dsimp only)); refine box_event ?hg (N := 4) ?hd (cs := #[.int .i64 0, .int .i64 0, .string (⟨#[]⟩ : ByteArray), .string (⟨#[]⟩ : ByteArray)]) (t := 60) ?hr ?_; (case hd => rfl); (case hg => rfl); (case hr => first | (go_simp; done) | (go_simp; rfl)); intro gb132 hg w40 hbox hb; have n0_ := Aside0.mk (blk_below (g := gb129) (o := .cells #[.int .i64 a0_0, .int .i64 a0_1, .int .i64 a0_2, .string a0_3, .string a0_4, .slice (some ad131) l0_5.length c0_5, .slice A0_6 l0_6.length c0_6] 63 (0, 0)) (by (with_reducible repeat (first | refine blk_drewN ?_ _ | refine blk_drew ?_ | refine blk_alloc ?_ _)); exact BK129.out) hb); have n1_ := Aside0.mk (below_step (by repeat (first | (with_reducible first | exact HB.out | apply below_alloc | apply pw_below_drewN | apply below_drew1 | refine below_set ?_ GE129.out) | exact HB.out)) hb); have n2_ := Aside0.mk (hbox); have n3_ := Aside0.mk ((by rw [hg]; exact (below_size (by repeat (first | (with_reducible first | exact HB.out | apply below_alloc | apply pw_below_drewN | apply below_drew1 | refine below_set ?_ GE129.out) | exact HB.out))) : w.heap.size ≤ gb132)); have n4_ := Aside0.mk ((by rw [hg]; exact (below_size (by repeat (first | (with_reducible first | exact HB.out | apply below_alloc | apply pw_below_drewN | apply below_drew1 | refine below_set ?_ GE129.out) | exact HB.out))) : w.heap.size ≤ gb132)); have n5_ := Aside0.mk ((by rw [hg]; exact Nat.ne_of_lt (blk_lt (g := gb129) (o := .cells #[.int .i64 a0_0, .int .i64 a0_1, .int .i64 a0_2, .string a0_3, .string a0_4, .slice (some ad131) l0_5.length c0_5, .slice A0_6 l0_6.length c0_6] 63 (0, 0)) (by (with_reducible repeat (first | refine blk_drewN ?_ _ | refine blk_drew ?_ | refine blk_alloc ?_ _)); exact BK129.out)) : gb129 ≠ gb132)); have n6_ := Aside0.mk ((by rw [hg]; exact Nat.ne_of_gt (blk_lt (g := gb129) (o := .cells #[.int .i64 a0_0, .int .i64 a0_1, .int .i64 a0_2, .string a0_3, .string a0_4, .slice (some ad131) l0_5.length c0_5, .slice A0_6 l0_6.length c0_6] 63 (0, 0)) (by (with_reducible repeat (first | refine blk_drewN ?_ _ | refine blk_drew ?_ | refine blk_alloc ?_ _)); exact BK129.out)) : gb132 ≠ gb129)); clear BK129; clear HB; have BK129 := n0_; have HB := n1_; have BK132 := n2_; have GW132 := n3_; have GE132 := n4_; have NB129_132 := n5_; have NB132_129 := n6_; clear n0_ n1_ n2_ n3_ n4_ n5_ n6_; clear hb hbox hg; have hnb41 := NB132_129.out; have hnc41 := NB129_132.out; have hcz42_0 : w40.cell? ⟨gb132, 0, none⟩ = some (.int .i64 0) := (blk_cell BK132.out 0).trans rfl; have hcz42_1 : w40.cell? ⟨gb132, 1, none⟩ = some (.int .i64 0) := (blk_cell BK132.out 1).trans rfl; have hcz42_2 : w40.cell? ⟨gb132, 2, none⟩ = some (.string (⟨#[]⟩ : ByteArray)) := (blk_cell BK132.out 2).trans rfl; have hcz42_3 : w40.cell? ⟨gb132, 3, none⟩ = some (.string (⟨#[]⟩ : ByteArray)) := (blk_cell BK132.out 3).trans rfl; have hfz42_0 := blk_frozen BK132.out 0; have hfz42_1 := blk_frozen BK132.out 1; have hfz42_2 := blk_frozen BK132.out 2; have hfz42_3 := blk_frozen BK132.out 3))
                                      have n0_ : Aside0 (((((w40.setCell ⟨gb132, 0, none⟩ (.int .i64 ((rd_T60 l0_5 x42_3).f0))).setCell ⟨gb132, 1, none⟩ (.int .i64 ((rd_T60 l0_5 x42_3).f1))).setCell ⟨gb132, 2, none⟩ (.string ((rd_T60 l0_5 x42_3).f2))).setCell ⟨gb132, 3, none⟩ (.string ((rd_T60 l0_5 x42_3).f3))).heap[gb129]? = some (.cells #[.int .i64 a0_0, .int .i64 a0_1, .int .i64 a0_2, .string a0_3, .string a0_4, .slice (some ad131) l0_5.length c0_5, .slice A0_6 l0_6.length c0_6] 63 (0, 0))) := ⟨by (with_reducible repeat (first | refine blk_drewN ?_ _ | refine blk_drew ?_ | refine blk_alloc ?_ _)); refine blk_far ?_ NB129_132.out _; (with_reducible repeat (first | refine blk_drewN ?_ _ | refine blk_drew ?_ | refine blk_alloc ?_ _)); refine blk_far ?_ NB129_132.out _; (with_reducible repeat (first | refine blk_drewN ?_ _ | refine blk_drew ?_ | refine blk_alloc ?_ _)); refine blk_far ?_ NB129_132.out _; (with_reducible repeat (first | refine blk_drewN ?_ _ | refine blk_drew ?_ | refine blk_alloc ?_ _)); refine blk_far ?_ NB129_132.out _; (with_reducible repeat (first | refine blk_drewN ?_ _ | refine blk_drew ?_ | refine blk_alloc ?_ _)); exact BK129.out⟩
                                      have n1_ : Aside0 (((((w40.setCell ⟨gb132, 0, none⟩ (.int .i64 ((rd_T60 l0_5 x42_3).f0))).setCell ⟨gb132, 1, none⟩ (.int .i64 ((rd_T60 l0_5 x42_3).f1))).setCell ⟨gb132, 2, none⟩ (.string ((rd_T60 l0_5 x42_3).f2))).setCell ⟨gb132, 3, none⟩ (.string ((rd_T60 l0_5 x42_3).f3))).heap[gb132]? = some (.cells #[.int .i64 ((rd_T60 l0_5 x42_3).f0), .int .i64 ((rd_T60 l0_5 x42_3).f1), .string ((rd_T60 l0_5 x42_3).f2), .string ((rd_T60 l0_5 x42_3).f3)] 60 (0, 0))) := ⟨by (with_reducible repeat (first | refine blk_drewN ?_ _ | refine blk_drew ?_ | refine blk_alloc ?_ _)); refine blk_put (cs := #[.int .i64 ((rd_T60 l0_5 x42_3).f0), .int .i64 ((rd_T60 l0_5 x42_3).f1), .string ((rd_T60 l0_5 x42_3).f2), .string (⟨#[]⟩ : ByteArray)]) ?_ 3 _ rfl; (with_reducible repeat (first | refine blk_drewN ?_ _ | refine blk_drew ?_ | refine blk_alloc ?_ _)); refine blk_put (cs := #[.int .i64 ((rd_T60 l0_5 x42_3).f0), .int .i64 ((rd_T60 l0_5 x42_3).f1), .string (⟨#[]⟩ : ByteArray), .string (⟨#[]⟩ : ByteArray)]) ?_ 2 _ rfl; (with_reducible repeat (first | refine blk_drewN ?_ _ | refine blk_drew ?_ | refine blk_alloc ?_ _)); refine blk_put (cs := #[.int .i64 ((rd_T60 l0_5 x42_3).f0), .int .i64 0, .string (⟨#[]⟩ : ByteArray), .string (⟨#[]⟩ : ByteArray)]) ?_ 1 _ rfl; (with_reducible repeat (first | refine blk_drewN ?_ _ | refine blk_drew ?_ | refine blk_alloc ?_ _)); refine blk_put (cs := #[.int .i64 0, .int .i64 0, .string (⟨#[]⟩ : ByteArray), .string (⟨#[]⟩ : ByteArray)]) ?_ 0 _ rfl; (with_reducible repeat (first | refine blk_drewN ?_ _ | refine blk_drew ?_ | refine blk_alloc ?_ _)); exact BK132.out⟩
                                      have n2_ : Aside0 (Below w.heap.size w ((((w40.setCell ⟨gb132, 0, none⟩ (.int .i64 ((rd_T60 l0_5 x42_3).f0))).setCell ⟨gb132, 1, none⟩ (.int .i64 ((rd_T60 l0_5 x42_3).f1))).setCell ⟨gb132, 2, none⟩ (.string ((rd_T60 l0_5 x42_3).f2))).setCell ⟨gb132, 3, none⟩ (.string ((rd_T60 l0_5 x42_3).f3)))) := ⟨by repeat (first | (with_reducible first | exact HB.out | apply below_alloc | apply pw_below_drewN | apply below_drew1 | refine below_set ?_ GE129.out | refine below_set ?_ GE132.out) | exact HB.out)⟩
                                      (try clear BK129)
                                      (try clear BK132)
                                      (try clear HB)
                                      generalize ((((w40.setCell ⟨gb132, 0, none⟩ (.int .i64 ((rd_T60 l0_5 x42_3).f0))).setCell ⟨gb132, 1, none⟩ (.int .i64 ((rd_T60 l0_5 x42_3).f1))).setCell ⟨gb132, 2, none⟩ (.string ((rd_T60 l0_5 x42_3).f2))).setCell ⟨gb132, 3, none⟩ (.string ((rd_T60 l0_5 x42_3).f3))) = w43 at n0_ n1_ n2_ ⊢
                                      have BK129 := n0_
                                      have BK132 := n1_
                                      have HB := n2_
                                      clear n0_ n1_ n2_
                                      have n0_ := Aside0.mk (blk_drew BK129.out)
                                      have n1_ := Aside0.mk (blk_drew BK132.out)
                                      have n2_ := Aside0.mk (below_drew1 HB.out)
                                      clear BK129
                                      clear BK132
                                      clear HB
                                      have BK129 := n0_
                                      have BK132 := n1_
                                      have HB := n2_
                                      clear n0_ n1_ n2_
                                      have p134 : 0 ≤ ((ji35) : Int) := of_decide_eq_true (by first | (with_reducible assumption) | assumption)
                                      have q134 : (ji35) < (l0_5.length : Int) := of_decide_eq_true (by first | (with_reducible assumption) | assumption)
                                      obtain ⟨ad134, e134, hx134_0, hx134_1, hx134_2, hx134_3⟩ := at_T60 HR0_5.out (ji35) p134 q134
                                      have hw134_3 := hx134_3
                                      have hw134_2 := hx134_2
                                      have hw134_1 := hx134_1
                                      have hw134_0 := hx134_0
                                      obtain rfl : ad131 = ad134 := (by injection e134)
                                      replace hx134_0 := (HB.out.cell (World.block_lt_of_cell? w _ hx134_0)).trans hx134_0
                                      replace hx134_1 := (HB.out.cell (World.block_lt_of_cell? w _ hx134_1)).trans hx134_1
                                      replace hx134_2 := (HB.out.cell (World.block_lt_of_cell? w _ hx134_2)).trans hx134_2
                                      replace hx134_3 := (HB.out.cell (World.block_lt_of_cell? w _ hx134_3)).trans hx134_3
                                      replace p134 := eq_true p134
                                      replace q134 := eq_true q134
                                      refine start_ (n := 23) (S := fun w' => w'.cell? ⟨gb132, 0, none⟩ = some (.int .i64 ((rd_T60 l0_5 x42_3).f0)) ∧ w'.cell? ⟨gb132, 1, none⟩ = some (.int .i64 ((rd_T60 l0_5 x42_3).f1)) ∧ w'.cell? ⟨gb132, 2, none⟩ = some (.string ((rd_T60 l0_5 x42_3).f2)) ∧ w'.cell? ⟨gb132, 3, none⟩ = some (.string ((rd_T60 l0_5 x42_3).f3)) ∧ w'.cell? ⟨gb129, 0, none⟩ = some (.int .i64 a0_0) ∧ w'.cell? ⟨gb129, 1, none⟩ = some (.int .i64 a0_1) ∧ w'.cell? ⟨gb129, 2, none⟩ = some (.int .i64 a0_2) ∧ w'.cell? ⟨gb129, 3, none⟩ = some (.string a0_3) ∧ w'.cell? ⟨gb129, 4, none⟩ = some (.string a0_4) ∧ w'.cell? ⟨gb129, 5, none⟩ = some (.slice (some ad131) l0_5.length c0_5) ∧ w'.cell? ⟨gb129, 6, none⟩ = some (.slice A0_6 l0_6.length c0_6) ∧ w'.cell? (ad131.add (((ji35)).toNat * 4)) = some (.int .i64 ((rd_T60 l0_5 (ji35)).f0)) ∧ w'.cell? ⟨(ad131.add (((ji35)).toNat * 4)).block, (ad131.add (((ji35)).toNat * 4)).off + 1, none⟩ = some (.int .i64 ((rd_T60 l0_5 (ji35)).f1)) ∧ w'.cell? ⟨(ad131.add (((ji35)).toNat * 4)).block, (ad131.add (((ji35)).toNat * 4)).off + 2, none⟩ = some (.string ((rd_T60 l0_5 (ji35)).f2)) ∧ w'.cell? ⟨(ad131.add (((ji35)).toNat * 4)).block, (ad131.add (((ji35)).toNat * 4)).off + 3, none⟩ = some (.string ((rd_T60 l0_5 (ji35)).f3))) (ds := []) #[false, false, false, false, false, false, false, false, false, false, false, false, false, false, false, false, false, false, false, false, false, false, false] (by kernel_rfl) rfl rfl ⟨(blk_cell BK132.out 0).trans rfl, (blk_cell BK132.out 1).trans rfl, (blk_cell BK132.out 2).trans rfl, (blk_cell BK132.out 3).trans rfl, (blk_cell BK129.out 0).trans rfl, (blk_cell BK129.out 1).trans rfl, (blk_cell BK129.out 2).trans rfl, (blk_cell BK129.out 3).trans rfl, (blk_cell BK129.out 4).trans rfl, (blk_cell BK129.out 5).trans rfl, (blk_cell BK129.out 6).trans rfl, ((HB.out.cell (World.block_lt_of_cell? w _ hw134_0)).trans hw134_0), ((HB.out.cell (World.block_lt_of_cell? w _ hw134_1)).trans hw134_1), ((HB.out.cell (World.block_lt_of_cell? w _ hw134_2)).trans hw134_2), ((HB.out.cell (World.block_lt_of_cell? w _ hw134_3)).trans hw134_3)⟩ (fun hHeld => ?_); refine with_tabW spec_GoodValue.tab11 spec_GoodValue.bits11 (fun HT_ HW_ => ?_)
                                      generalize w43.drew = w44 at BK129 BK132 HB hx134_0 hx134_1 hx134_2 hx134_3 hHeld ⊢
                                      refine take_ (i := 0) (N := some 47) (v := ?_) (a' := ?_) #[true, false, false, false, false, false, false, false, false, false, false, false, false, false, false, false, false, false, false, false, false, false, false] rfl rfl (take_ofW HT_.out HW_.out (by kernel_rfl)) (fun _ _ _ h => h) (Or.inl ⟨by rfl, ?_⟩) hHeld ?_ ?_
                                      rotate_left
                                      · rintro w' ⟨s0, s1, s2, s3, s4, s5, s6, s7, s8, s9, s10, s11, s12, s13, s14⟩
                                        go_simp
                                        with_reducible rfl
                                      rotate_left
                                      · simp only [Act.put, List.setIfInBounds_toArray, List.set_cons_zero, List.set_cons_succ, i64_w, i32_w]
                                        rfl
                                      refine one_ (i := 1) (N := some 48) #[true, true, false, false, false, false, false, false, false, false, false, false, false, false, false, false, false, false, false, false, false, false, false] rfl rfl (one_of HT_.out (by kernel_rfl)) (by decide) (fun K hK => ?_)
                                      refine goes_ Try.func73 (by kernel_rfl) rfl #[.agg #[.int .i64 ((rd_T60 l0_5 x42_3).f0), .int .i64 ((rd_T60 l0_5 x42_3).f1), .string ((rd_T60 l0_5 x42_3).f2), .string ((rd_T60 l0_5 x42_3).f3)]] (by rfl) rfl rfl (by (try simp only [List.map_toArray, List.map_cons, List.map_nil]); first | done | rfl | (simp only [List.length_drop, List.length_take]; rfl)) ?_
                                      with_reducible refine (spec_GoodAtom.calls k3 ((rd_T60 l0_5 x42_3).f0) ((rd_T60 l0_5 x42_3).f1) ((rd_T60 l0_5 x42_3).f2) ((rd_T60 l0_5 x42_3).f3) true _ A31.out).mono ?_
                                      rintro e w45 ⟨rfl, hb⟩
                                      refine ⟨_, rfl, ?_⟩
                                      have n0_ := Aside0.mk (blk_below (g := gb129) (o := .cells #[.int .i64 a0_0, .int .i64 a0_1, .int .i64 a0_2, .string a0_3, .string a0_4, .slice (some ad131) l0_5.length c0_5, .slice A0_6 l0_6.length c0_6] 63 (0, 0)) (by (with_reducible repeat (first | refine blk_drewN ?_ _ | refine blk_drew ?_ | refine blk_alloc ?_ _)); exact BK129.out) hb)
                                      have n1_ := Aside0.mk (blk_below (g := gb132) (o := .cells #[.int .i64 ((rd_T60 l0_5 x42_3).f0), .int .i64 ((rd_T60 l0_5 x42_3).f1), .string ((rd_T60 l0_5 x42_3).f2), .string ((rd_T60 l0_5 x42_3).f3)] 60 (0, 0)) (by (with_reducible repeat (first | refine blk_drewN ?_ _ | refine blk_drew ?_ | refine blk_alloc ?_ _)); exact BK132.out) hb)
                                      have n2_ := Aside0.mk (below_step (by repeat (first | (with_reducible first | exact HB.out | apply below_alloc | apply pw_below_drewN | apply below_drew1 | refine below_set ?_ GE129.out | refine below_set ?_ GE132.out) | exact HB.out)) hb)
                                      clear BK129
                                      clear BK132
                                      clear HB
                                      have BK129 := n0_
                                      have BK132 := n1_
                                      have HB := n2_
                                      clear n0_ n1_ n2_
                                      (try clear hb)
                                      (try clear hb2)
                                      (try clear hk)
                                      (try clear hi)
                                      refine hK.out _ _ ⟨(blk_cell BK132.out 0).trans rfl, (blk_cell BK132.out 1).trans rfl, (blk_cell BK132.out 2).trans rfl, (blk_cell BK132.out 3).trans rfl, (blk_cell BK129.out 0).trans rfl, (blk_cell BK129.out 1).trans rfl, (blk_cell BK129.out 2).trans rfl, (blk_cell BK129.out 3).trans rfl, (blk_cell BK129.out 4).trans rfl, (blk_cell BK129.out 5).trans rfl, (blk_cell BK129.out 6).trans rfl, ((HB.out.cell (World.block_lt_of_cell? w _ hw134_0)).trans hw134_0), ((HB.out.cell (World.block_lt_of_cell? w _ hw134_1)).trans hw134_1), ((HB.out.cell (World.block_lt_of_cell? w _ hw134_2)).trans hw134_2), ((HB.out.cell (World.block_lt_of_cell? w _ hw134_3)).trans hw134_3)⟩ (fun hHeld => ?_)
                                      clear hK K
                                      refine norm_ (a' := ?_) ?_ ?_
                                      rotate_left
                                      · show Act.put _ (some 48) _ = _
                                        simp only [Act.put, List.setIfInBounds_toArray, List.set_cons_zero, List.set_cons_succ, i64_w, i32_w]
                                        rfl
                                      refine pure_ (i := 2) (N := some 49) (v := ?_) (a' := ?_) #[true, true, true, false, false, false, false, false, false, false, false, false, false, false, false, false, false, false, false, false, false, false, false] rfl rfl (any_of HT_.out (by kernel_rfl)) (fun _ _ _ h => h) (Or.inl ⟨by rfl, ?_⟩) ?_ ?_
                                      rotate_left
                                      · intro w'
                                        go_simp
                                        with_reducible rfl
                                      rotate_left
                                      · simp only [Act.put, List.setIfInBounds_toArray, List.set_cons_zero, List.set_cons_succ, i64_w, i32_w]
                                        rfl
                                      refine pure_ (i := 3) (N := some 50) (v := ?_) (a' := ?_) #[true, true, true, true, false, false, false, false, false, false, false, false, false, false, false, false, false, false, false, false, false, false, false] rfl rfl (any_of HT_.out (by kernel_rfl)) (fun _ _ _ h => h) (Or.inl ⟨by rfl, ?_⟩) ?_ ?_
                                      rotate_left
                                      · intro w'
                                        go_simp
                                        with_reducible rfl
                                      rotate_left
                                      · simp only [Act.put, List.setIfInBounds_toArray, List.set_cons_zero, List.set_cons_succ, i64_w, i32_w]
                                        rfl
                                      refine pure_ (i := 4) (N := some 51) (v := ?_) (a' := ?_) #[true, true, true, true, true, false, false, false, false, false, false, false, false, false, false, false, false, false, false, false, false, false, false] rfl rfl (any_of HT_.out (by kernel_rfl)) (fun _ _ _ h => h) (Or.inl ⟨by rfl, ?_⟩) ?_ ?_
                                      rotate_left
                                      · intro w'
                                        go_simp
                                        with_reducible rfl
                                      rotate_left
                                      · simp only [Act.put, List.setIfInBounds_toArray, List.set_cons_zero, List.set_cons_succ, i64_w, i32_w]
                                        rfl
                                      refine take_ (i := 5) (N := some 52) (v := ?_) (a' := ?_) #[true, true, true, true, true, true, false, false, false, false, false, false, false, false, false, false, false, false, false, false, false, false, false] rfl rfl (take_ofW HT_.out HW_.out (by kernel_rfl)) (fun _ _ _ h => h) (Or.inl ⟨by rfl, ?_⟩) hHeld ?_ ?_
                                      rotate_left
                                      · rintro w' ⟨s0, s1, s2, s3, s4, s5, s6, s7, s8, s9, s10, s11, s12, s13, s14⟩
                                        go_simp
                                        with_reducible rfl
                                      rotate_left
                                      · simp only [Act.put, List.setIfInBounds_toArray, List.set_cons_zero, List.set_cons_succ, i64_w, i32_w]
                                        rfl
                                      refine pure_ (i := 6) (N := some 53) (v := ?_) (a' := ?_) #[true, true, true, true, true, true, true, false, false, false, false, false, false, false, false, false, false, false, false, false, false, false, false] rfl rfl (any_of HT_.out (by kernel_rfl)) (fun _ _ _ h => h) (Or.inl ⟨by rfl, ?_⟩) ?_ ?_
                                      rotate_left
                                      · intro w'
                                        go_simp
                                        with_reducible rfl
                                      rotate_left
                                      · simp only [Act.put, List.setIfInBounds_toArray, List.set_cons_zero, List.set_cons_succ, i64_w, i32_w]
                                        rfl
                                      refine pure_ (i := 7) (N := some 54) (v := ?_) (a' := ?_) #[true, true, true, true, true, true, true, true, false, false, false, false, false, false, false, false, false, false, false, false, false, false, false] rfl rfl (any_of HT_.out (by kernel_rfl)) (fun _ _ _ h => h) (Or.inl ⟨by rfl, ?_⟩) ?_ ?_
                                      rotate_left
                                      · intro w'
                                        go_simp
                                        with_reducible rfl
                                      rotate_left
                                      · simp only [Act.put, List.setIfInBounds_toArray, List.set_cons_zero, List.set_cons_succ, i64_w, i32_w]
                                        rfl
                                      refine pure_ (i := 8) (N := some 55) (v := ?_) (a' := ?_) #[true, true, true, true, true, true, true, true, true, false, false, false, false, false, false, false, false, false, false, false, false, false, false] rfl rfl (any_of HT_.out (by kernel_rfl)) (fun _ _ _ h => h) (Or.inl ⟨by rfl, ?_⟩) ?_ ?_
                                      rotate_left
                                      · intro w'
                                        go_simp
                                        with_reducible rfl
                                      rotate_left
                                      · simp only [Act.put, List.setIfInBounds_toArray, List.set_cons_zero, List.set_cons_succ, i64_w, i32_w]
                                        rfl
                                      refine pure_ (i := 9) (N := some 56) (v := ?_) (a' := ?_) #[true, true, true, true, true, true, true, true, true, true, false, false, false, false, false, false, false, false, false, false, false, false, false] rfl rfl (any_of HT_.out (by kernel_rfl)) (fun _ _ _ h => h) (Or.inl ⟨by rfl, ?_⟩) ?_ ?_
                                      rotate_left
                                      · intro w'
                                        go_simp
                                        with_reducible rfl
                                      rotate_left
                                      · simp only [Act.put, List.setIfInBounds_toArray, List.set_cons_zero, List.set_cons_succ, i64_w, i32_w]
                                        rfl
                                      refine pure_ (i := 10) (N := some 57) (v := ?_) (a' := ?_) #[true, true, true, true, true, true, true, true, true, true, true, false, false, false, false, false, false, false, false, false, false, false, false] rfl rfl (any_of HT_.out (by kernel_rfl)) (fun _ _ _ h => h) (Or.inl ⟨by rfl, ?_⟩) ?_ ?_
                                      rotate_left
                                      · intro w'
                                        go_simp
                                        with_reducible rfl
                                      rotate_left
                                      · simp only [Act.put, List.setIfInBounds_toArray, List.set_cons_zero, List.set_cons_succ, i64_w, i32_w]
                                        rfl
                                      refine pure_ (i := 11) (N := some 58) (v := ?_) (a' := ?_) #[true, true, true, true, true, true, true, true, true, true, true, true, false, false, false, false, false, false, false, false, false, false, false] rfl rfl (any_of HT_.out (by kernel_rfl)) (fun _ _ _ h => h) (Or.inl ⟨by rfl, ?_⟩) ?_ ?_
                                      rotate_left
                                      · intro w'
                                        go_simp
                                        with_reducible rfl
                                      rotate_left
                                      · simp only [Act.put, List.setIfInBounds_toArray, List.set_cons_zero, List.set_cons_succ, i64_w, i32_w]
                                        rfl
                                      refine pure_ (i := 12) (N := some 59) (v := ?_) (a' := ?_) #[true, true, true, true, true, true, true, true, true, true, true, true, true, false, false, false, false, false, false, false, false, false, false] rfl rfl (any_of HT_.out (by kernel_rfl)) (fun _ _ _ h => h) (Or.inl ⟨by rfl, ?_⟩) ?_ ?_
                                      rotate_left
                                      · intro w'
                                        go_simp
                                        with_reducible rfl
                                      rotate_left
                                      · simp only [Act.put, List.setIfInBounds_toArray, List.set_cons_zero, List.set_cons_succ, i64_w, i32_w]
                                        rfl
                                      refine pure_ (i := 14) (N := some 61) (v := ?_) (a' := ?_) #[true, true, true, true, true, true, true, true, true, true, true, true, true, false, true, false, false, false, false, false, false, false, false] rfl rfl (any_of HT_.out (by kernel_rfl)) (fun _ _ _ h => h) (Or.inl ⟨by rfl, ?_⟩) ?_ ?_
                                      rotate_left
                                      · intro w'
                                        go_simp
                                        with_reducible rfl
                                      rotate_left
                                      · simp only [Act.put, List.setIfInBounds_toArray, List.set_cons_zero, List.set_cons_succ, i64_w, i32_w]
                                        rfl
                                      refine pure_ (i := 15) (N := some 62) (v := ?_) (a' := ?_) #[true, true, true, true, true, true, true, true, true, true, true, true, true, false, true, true, false, false, false, false, false, false, false] rfl rfl (any_of HT_.out (by kernel_rfl)) (fun _ _ _ h => h) (Or.inl ⟨by rfl, ?_⟩) ?_ ?_
                                      rotate_left
                                      · intro w'
                                        go_simp
                                        with_reducible rfl
                                      rotate_left
                                      · simp only [Act.put, List.setIfInBounds_toArray, List.set_cons_zero, List.set_cons_succ, i64_w, i32_w]
                                        rfl
                                      refine take_ (i := 13) (N := some 60) (v := ?_) (a' := ?_) #[true, true, true, true, true, true, true, true, true, true, true, true, true, true, true, true, false, false, false, false, false, false, false] rfl rfl (take_ofW HT_.out HW_.out (by kernel_rfl)) (fun _ _ _ h => h) (Or.inl ⟨by rfl, ?_⟩) hHeld ?_ ?_
                                      rotate_left
                                      · rintro w' ⟨s0, s1, s2, s3, s4, s5, s6, s7, s8, s9, s10, s11, s12, s13, s14⟩
                                        go_simp
                                        with_reducible rfl
                                      rotate_left
                                      · simp only [Act.put, List.setIfInBounds_toArray, List.set_cons_zero, List.set_cons_succ, i64_w, i32_w]
                                        rfl
                                      refine pure_ (i := 16) (N := some 63) (v := ?_) (a' := ?_) #[true, true, true, true, true, true, true, true, true, true, true, true, true, true, true, true, true, false, false, false, false, false, false] rfl rfl (any_of HT_.out (by kernel_rfl)) (fun _ _ _ h => h) (Or.inl ⟨by rfl, ?_⟩) ?_ ?_
                                      rotate_left
                                      · intro w'
                                        go_simp
                                        with_reducible rfl
                                      rotate_left
                                      · simp only [Act.put, List.setIfInBounds_toArray, List.set_cons_zero, List.set_cons_succ, i64_w, i32_w]
                                        rfl
                                      refine take_ (i := 17) (N := some 64) (v := ?_) (a' := ?_) #[true, true, true, true, true, true, true, true, true, true, true, true, true, true, true, true, true, true, false, false, false, false, false] rfl rfl (take_ofW HT_.out HW_.out (by kernel_rfl)) (fun _ _ _ h => h) (Or.inl ⟨by rfl, ?_⟩) hHeld ?_ ?_
                                      rotate_left
                                      · rintro w' ⟨s0, s1, s2, s3, s4, s5, s6, s7, s8, s9, s10, s11, s12, s13, s14⟩
                                        go_simp
                                        with_reducible rfl
                                      rotate_left
                                      · simp only [Act.put, List.setIfInBounds_toArray, List.set_cons_zero, List.set_cons_succ, i64_w, i32_w]
                                        rfl
                                      refine take_ (i := 18) (N := some 65) (v := ?_) (a' := ?_) #[true, true, true, true, true, true, true, true, true, true, true, true, true, true, true, true, true, true, true, false, false, false, false] rfl rfl (take_ofW HT_.out HW_.out (by kernel_rfl)) (fun _ _ _ h => h) (Or.inl ⟨by rfl, ?_⟩) hHeld ?_ ?_
                                      rotate_left
                                      · rintro w' ⟨s0, s1, s2, s3, s4, s5, s6, s7, s8, s9, s10, s11, s12, s13, s14⟩
                                        go_simp
                                        with_reducible rfl
                                      rotate_left
                                      · simp only [Act.put, List.setIfInBounds_toArray, List.set_cons_zero, List.set_cons_succ, i64_w, i32_w]
                                        rfl
                                      refine one_ (i := 19) (N := some 66) #[true, true, true, true, true, true, true, true, true, true, true, true, true, true, true, true, true, true, true, true, false, false, false] rfl rfl (one_of HT_.out (by kernel_rfl)) (by decide) (fun K hK => ?_)
                                      refine goes_ Try.func74 (by kernel_rfl) rfl #[.agg #[.int .i64 ((rd_T60 l0_5 (ji35)).f0), .int .i64 ((rd_T60 l0_5 (ji35)).f1), .string ((rd_T60 l0_5 (ji35)).f2), .string ((rd_T60 l0_5 (ji35)).f3)], .agg #[.int .i64 ((rd_T60 l0_5 x42_3).f0), .int .i64 ((rd_T60 l0_5 x42_3).f1), .string ((rd_T60 l0_5 x42_3).f2), .string ((rd_T60 l0_5 x42_3).f3)]] (by rfl) rfl rfl (by (try simp only [List.map_toArray, List.map_cons, List.map_nil]); first | done | (simp only [hji35]; rfl) | rfl | (simp only [List.length_drop, List.length_take]; rfl)) ?_
                                      with_reducible refine (spec_l1Cmp.calls k3 ((rd_T60 l0_5 (ji35)).f0) ((rd_T60 l0_5 (ji35)).f1) ((rd_T60 l0_5 (ji35)).f2) ((rd_T60 l0_5 (ji35)).f3) ((rd_T60 l0_5 x42_3).f0) ((rd_T60 l0_5 x42_3).f1) ((rd_T60 l0_5 x42_3).f2) ((rd_T60 l0_5 x42_3).f3) t135 _ A38.out).mono ?_
                                      rintro e w46 ⟨rfl, hb⟩
                                      refine ⟨_, rfl, ?_⟩
                                      have n0_ := Aside0.mk (blk_below (g := gb129) (o := .cells #[.int .i64 a0_0, .int .i64 a0_1, .int .i64 a0_2, .string a0_3, .string a0_4, .slice (some ad131) l0_5.length c0_5, .slice A0_6 l0_6.length c0_6] 63 (0, 0)) (by (with_reducible repeat (first | refine blk_drewN ?_ _ | refine blk_drew ?_ | refine blk_alloc ?_ _)); exact BK129.out) hb)
                                      have n1_ := Aside0.mk (blk_below (g := gb132) (o := .cells #[.int .i64 ((rd_T60 l0_5 x42_3).f0), .int .i64 ((rd_T60 l0_5 x42_3).f1), .string ((rd_T60 l0_5 x42_3).f2), .string ((rd_T60 l0_5 x42_3).f3)] 60 (0, 0)) (by (with_reducible repeat (first | refine blk_drewN ?_ _ | refine blk_drew ?_ | refine blk_alloc ?_ _)); exact BK132.out) hb)
                                      have n2_ := Aside0.mk (below_step (by repeat (first | (with_reducible first | exact HB.out | apply below_alloc | apply pw_below_drewN | apply below_drew1 | refine below_set ?_ GE129.out | refine below_set ?_ GE132.out) | exact HB.out)) hb)
                                      clear BK129
                                      clear BK132
                                      clear HB
                                      have BK129 := n0_
                                      have BK132 := n1_
                                      have HB := n2_
                                      clear n0_ n1_ n2_
                                      (try clear hb)
                                      (try clear hb2)
                                      (try clear hk)
                                      (try clear hi)
                                      refine hK.out _ _ ⟨(blk_cell BK132.out 0).trans rfl, (blk_cell BK132.out 1).trans rfl, (blk_cell BK132.out 2).trans rfl, (blk_cell BK132.out 3).trans rfl, (blk_cell BK129.out 0).trans rfl, (blk_cell BK129.out 1).trans rfl, (blk_cell BK129.out 2).trans rfl, (blk_cell BK129.out 3).trans rfl, (blk_cell BK129.out 4).trans rfl, (blk_cell BK129.out 5).trans rfl, (blk_cell BK129.out 6).trans rfl, ((HB.out.cell (World.block_lt_of_cell? w _ hw134_0)).trans hw134_0), ((HB.out.cell (World.block_lt_of_cell? w _ hw134_1)).trans hw134_1), ((HB.out.cell (World.block_lt_of_cell? w _ hw134_2)).trans hw134_2), ((HB.out.cell (World.block_lt_of_cell? w _ hw134_3)).trans hw134_3)⟩ (fun hHeld => ?_)
                                      clear hK K
                                      refine norm_ (a' := ?_) ?_ ?_
                                      rotate_left
                                      · show Act.put _ (some 66) _ = _
                                        simp only [Act.put, List.setIfInBounds_toArray, List.set_cons_zero, List.set_cons_succ, i64_w, i32_w]
                                        rfl
                                      refine pure_ (i := 20) (N := some 67) (v := ?_) (a' := ?_) #[true, true, true, true, true, true, true, true, true, true, true, true, true, true, true, true, true, true, true, true, true, false, false] rfl rfl (any_of HT_.out (by kernel_rfl)) (fun _ _ _ h => h) (Or.inl ⟨by rfl, ?_⟩) ?_ ?_
                                      rotate_left
                                      · intro w'
                                        go_simp
                                        with_reducible rfl
                                      rotate_left
                                      · simp only [Act.put, List.setIfInBounds_toArray, List.set_cons_zero, List.set_cons_succ, i64_w, i32_w]
                                        rfl
                                      refine pure_ (i := 21) (N := some 68) (v := ?_) (a' := ?_) #[true, true, true, true, true, true, true, true, true, true, true, true, true, true, true, true, true, true, true, true, true, true, false] rfl rfl (any_of HT_.out (by kernel_rfl)) (fun _ _ _ h => h) (Or.inl ⟨by rfl, ?_⟩) ?_ ?_
                                      rotate_left
                                      · intro w'
                                        go_simp
                                        with_reducible rfl
                                      rotate_left
                                      · simp only [Act.put, List.setIfInBounds_toArray, List.set_cons_zero, List.set_cons_succ, i64_w, i32_w]
                                        rfl
                                      refine pure_ (i := 22) (N := some 69) (v := ?_) (a' := ?_) #[true, true, true, true, true, true, true, true, true, true, true, true, true, true, true, true, true, true, true, true, true, true, true] rfl rfl (any_of HT_.out (by kernel_rfl)) (fun _ _ _ h => h) (Or.inl ⟨by rfl, ?_⟩) ?_ ?_
                                      rotate_left
                                      · intro w'
                                        go_simp
                                        with_reducible rfl
                                      rotate_left
                                      · simp only [Act.put, List.setIfInBounds_toArray, List.set_cons_zero, List.set_cons_succ, i64_w, i32_w]
                                        rfl
                                      refine done_ (done_of HT_.out (by kernel_rfl)) ?_
                                      try go_wp2
                                      go_ret
                                      exact ⟨by first | rfl | (simp [errW_none, errW_some] <;> rfl) | (simp only [← hji35]; first | rfl | (simp [errW_none, errW_some] <;> rfl)) | (simp [*, errW_none, errW_some] <;> rfl), by repeat (first | (with_reducible first | exact HB.out | apply below_alloc | apply pw_below_drewN | apply below_drew1 | refine below_set ?_ GE129.out | refine below_set ?_ GE132.out) | exact HB.out)⟩
                                    · rw [if_neg c39] at H
                                      have c39b0 : decide (0 ≤ t135) = false := decide_eq_false c39
                                      clear c39
                                      have H' := Aside0.mk H
                                      clear H
                                      have p131 : 0 ≤ (x42_3 : Int) := of_decide_eq_true (by first | (with_reducible assumption) | assumption)
                                      have q131 : x42_3 < (l0_5.length : Int) := of_decide_eq_true (by first | (with_reducible assumption) | assumption)
                                      obtain ⟨ad131, e131, hx131_0, hx131_1, hx131_2, hx131_3⟩ := at_T60 HR0_5.out x42_3 p131 q131
                                      cases e131
                                      replace hx131_0 := (HB.out.cell (World.block_lt_of_cell? w _ hx131_0)).trans hx131_0
                                      replace hx131_1 := (HB.out.cell (World.block_lt_of_cell? w _ hx131_1)).trans hx131_1
                                      replace hx131_2 := (HB.out.cell (World.block_lt_of_cell? w _ hx131_2)).trans hx131_2
                                      replace hx131_3 := (HB.out.cell (World.block_lt_of_cell? w _ hx131_3)).trans hx131_3
                                      replace p131 := eq_true p131
                                      replace q131 := eq_true q131
                                      try go_wp2_with (first | ((with_reducible refine gate_dst (N := 4) rfl ?_); (try (refine gate_guard (by rfl) ?_; dsimp only)); refine box_event ?hg (N := 4) ?hd (cs := #[.int .i64 0, .int .i64 0, .string (⟨#[]⟩ : ByteArray), .string (⟨#[]⟩ : ByteArray)]) (t := 60) ?hr ?_; (case hd => rfl); (case hg => rfl); (case hr => first | (go_simp; done) | (go_simp; rfl)); intro gb132 hg w47 hbox hb; have n0_ := Aside0.mk (blk_below (g := gb129) (o := .cells #[.int .i64 a0_0, .int .i64 a0_1, .int .i64 a0_2, .string a0_3, .string a0_4, .slice (some ad131) l0_5.length c0_5, .slice A0_6 l0_6.length c0_6] 63 (0, 0)) (by (with_reducible repeat (first | refine blk_drewN ?_ _ | refine blk_drew ?_ | refine blk_alloc ?_ _)); exact BK129.out) hb); have n1_ := Aside0.mk (below_step (by repeat (first | (with_reducible first | exact HB.out | apply below_alloc | apply pw_below_drewN | apply below_drew1 | refine below_set ?_ GE129.out) | exact HB.out)) hb); have n2_ := Aside0.mk (hbox); have n3_ := Aside0.mk ((by rw [hg]; exact (below_size (by repeat (first | (with_reducible first | exact HB.out | apply below_alloc | apply pw_below_drewN | apply below_drew1 | refine below_set ?_ GE129.out) | exact HB.out))) : w.heap.size ≤ gb132)); have n4_ := Aside0.mk ((by rw [hg]; exact (below_size (by repeat (first | (with_reducible first | exact HB.out | apply below_alloc | apply pw_below_drewN | apply below_drew1 | refine below_set ?_ GE129.out) | exact HB.out))) : w.heap.size ≤ gb132)); have n5_ := Aside0.mk ((by rw [hg]; exact Nat.ne_of_lt (blk_lt (g := gb129) (o := .cells #[.int .i64 a0_0, .int .i64 a0_1, .int .i64 a0_2, .string a0_3, .string a0_4, .slice (some ad131) l0_5.length c0_5, .slice A0_6 l0_6.length c0_6] 63 (0, 0)) (by (with_reducible repeat (first | refine blk_drewN ?_ _ | refine blk_drew ?_ | refine blk_alloc ?_ _)); exact BK129.out)) : gb129 ≠ gb132)); have n6_ := Aside0.mk ((by rw [hg]; exact Nat.ne_of_gt (blk_lt (g := gb129) (o := .cells #[.int .i64 a0_0, .int .i64 a0_1, .int .i64 a0_2, .string a0_3, .string a0_4, .slice (some ad131) l0_5.length c0_5, .slice A0_6 l0_6.length c0_6] 63 (0, 0)) (by (with_reducible repeat (first | refine blk_drewN ?_ _ | refine blk_drew ?_ | refine blk_alloc ?_ _)); exact BK129.out)) : gb132 ≠ gb129)); clear BK129; clear HB; have BK129 := n0_; have HB := n1_; have BK132 := n2_; have GW132 := n3_; have GE132 := n4_; have NB129_132 := n5_; have NB132_129 := n6_; clear n0_ n1_ n2_ n3_ n4_ n5_ n6_; clear hb hbox hg; have hnb48 := NB132_129.out; have hnc48 := NB129_132.out; have hcz49_0 : w47.cell? ⟨gb132, 0, none⟩ = some (.int .i64 0) := (blk_cell BK132.out 0).trans rfl; have hcz49_1 : w47.cell? ⟨gb132, 1, none⟩ = some (.int .i64 0) := (blk_cell BK132.out 1).trans rfl; have hcz49_2 : w47.cell? ⟨gb132, 2, none⟩ = some (.string (⟨#[]⟩ : ByteArray)) := (blk_cell BK132.out 2).trans rfl; have hcz49_3 : w47.cell? ⟨gb132, 3, none⟩ = some (.string (⟨#[]⟩ : ByteArray)) := (blk_cell BK132.out 3).trans rfl; have hfz49_0 := blk_frozen BK132.out 0; have hfz49_1 := blk_frozen BK132.out 1; have hfz49_2 := blk_frozen BK132.out 2; have hfz49_3 := blk_frozen BK132.out 3))
                                      have n0_ : Aside0 (((((w47.setCell ⟨gb132, 0, none⟩ (.int .i64 ((rd_T60 l0_5 x42_3).f0))).setCell ⟨gb132, 1, none⟩ (.int .i64 ((rd_T60 l0_5 x42_3).f1))).setCell ⟨gb132, 2, none⟩ (.string ((rd_T60 l0_5 x42_3).f2))).setCell ⟨gb132, 3, none⟩ (.string ((rd_T60 l0_5 x42_3).f3))).heap[gb129]? = some (.cells #[.int .i64 a0_0, .int .i64 a0_1, .int .i64 a0_2, .string a0_3, .string a0_4, .slice (some ad131) l0_5.length c0_5, .slice A0_6 l0_6.length c0_6] 63 (0, 0))) := ⟨by (with_reducible repeat (first | refine blk_drewN ?_ _ | refine blk_drew ?_ | refine blk_alloc ?_ _)); refine blk_far ?_ NB129_132.out _; (with_reducible repeat (first | refine blk_drewN ?_ _ | refine blk_drew ?_ | refine blk_alloc ?_ _)); refine blk_far ?_ NB129_132.out _; (with_reducible repeat (first | refine blk_drewN ?_ _ | refine blk_drew ?_ | refine blk_alloc ?_ _)); refine blk_far ?_ NB129_132.out _; (with_reducible repeat (first | refine blk_drewN ?_ _ | refine blk_drew ?_ | refine blk_alloc ?_ _)); refine blk_far ?_ NB129_132.out _; (with_reducible repeat (first | refine blk_drewN ?_ _ | refine blk_drew ?_ | refine blk_alloc ?_ _)); exact BK129.out⟩
                                      have n1_ : Aside0 (((((w47.setCell ⟨gb132, 0, none⟩ (.int .i64 ((rd_T60 l0_5 x42_3).f0))).setCell ⟨gb132, 1, none⟩ (.int .i64 ((rd_T60 l0_5 x42_3).f1))).setCell ⟨gb132, 2, none⟩ (.string ((rd_T60 l0_5 x42_3).f2))).setCell ⟨gb132, 3, none⟩ (.string ((rd_T60 l0_5 x42_3).f3))).heap[gb132]? = some (.cells #[.int .i64 ((rd_T60 l0_5 x42_3).f0), .int .i64 ((rd_T60 l0_5 x42_3).f1), .string ((rd_T60 l0_5 x42_3).f2), .string ((rd_T60 l0_5 x42_3).f3)] 60 (0, 0))) := ⟨by (with_reducible repeat (first | refine blk_drewN ?_ _ | refine blk_drew ?_ | refine blk_alloc ?_ _)); refine blk_put (cs := #[.int .i64 ((rd_T60 l0_5 x42_3).f0), .int .i64 ((rd_T60 l0_5 x42_3).f1), .string ((rd_T60 l0_5 x42_3).f2), .string (⟨#[]⟩ : ByteArray)]) ?_ 3 _ rfl; (with_reducible repeat (first | refine blk_drewN ?_ _ | refine blk_drew ?_ | refine blk_alloc ?_ _)); refine blk_put (cs := #[.int .i64 ((rd_T60 l0_5 x42_3).f0), .int .i64 ((rd_T60 l0_5 x42_3).f1), .string (⟨#[]⟩ : ByteArray), .string (⟨#[]⟩ : ByteArray)]) ?_ 2 _ rfl; (with_reducible repeat (first | refine blk_drewN ?_ _ | refine blk_drew ?_ | refine blk_alloc ?_ _)); refine blk_put (cs := #[.int .i64 ((rd_T60 l0_5 x42_3).f0), .int .i64 0, .string (⟨#[]⟩ : ByteArray), .string (⟨#[]⟩ : ByteArray)]) ?_ 1 _ rfl; (with_reducible repeat (first | refine blk_drewN ?_ _ | refine blk_drew ?_ | refine blk_alloc ?_ _)); refine blk_put (cs := #[.int .i64 0, .int .i64 0, .string (⟨#[]⟩ : ByteArray), .string (⟨#[]⟩ : ByteArray)]) ?_ 0 _ rfl; (with_reducible repeat (first | refine blk_drewN ?_ _ | refine blk_drew ?_ | refine blk_alloc ?_ _)); exact BK132.out⟩
                                      have n2_ : Aside0 (Below w.heap.size w ((((w47.setCell ⟨gb132, 0, none⟩ (.int .i64 ((rd_T60 l0_5 x42_3).f0))).setCell ⟨gb132, 1, none⟩ (.int .i64 ((rd_T60 l0_5 x42_3).f1))).setCell ⟨gb132, 2, none⟩ (.string ((rd_T60 l0_5 x42_3).f2))).setCell ⟨gb132, 3, none⟩ (.string ((rd_T60 l0_5 x42_3).f3)))) := ⟨by repeat (first | (with_reducible first | exact HB.out | apply below_alloc | apply pw_below_drewN | apply below_drew1 | refine below_set ?_ GE129.out | refine below_set ?_ GE132.out) | exact HB.out)⟩
                                      (try clear BK129)
                                      (try clear BK132)
                                      (try clear HB)
                                      generalize ((((w47.setCell ⟨gb132, 0, none⟩ (.int .i64 ((rd_T60 l0_5 x42_3).f0))).setCell ⟨gb132, 1, none⟩ (.int .i64 ((rd_T60 l0_5 x42_3).f1))).setCell ⟨gb132, 2, none⟩ (.string ((rd_T60 l0_5 x42_3).f2))).setCell ⟨gb132, 3, none⟩ (.string ((rd_T60 l0_5 x42_3).f3))) = w50 at n0_ n1_ n2_ ⊢
                                      have BK129 := n0_
                                      have BK132 := n1_
                                      have HB := n2_
                                      clear n0_ n1_ n2_
                                      have n0_ := Aside0.mk (blk_drew BK129.out)
                                      have n1_ := Aside0.mk (blk_drew BK132.out)
                                      have n2_ := Aside0.mk (below_drew1 HB.out)
                                      clear BK129
                                      clear BK132
                                      clear HB
                                      have BK129 := n0_
                                      have BK132 := n1_
                                      have HB := n2_
                                      clear n0_ n1_ n2_
                                      have p134 : 0 ≤ ((ji35) : Int) := of_decide_eq_true (by first | (with_reducible assumption) | assumption)
                                      have q134 : (ji35) < (l0_5.length : Int) := of_decide_eq_true (by first | (with_reducible assumption) | assumption)
                                      obtain ⟨ad134, e134, hx134_0, hx134_1, hx134_2, hx134_3⟩ := at_T60 HR0_5.out (ji35) p134 q134
                                      have hw134_3 := hx134_3
                                      have hw134_2 := hx134_2
                                      have hw134_1 := hx134_1
                                      have hw134_0 := hx134_0
                                      obtain rfl : ad131 = ad134 := (by injection e134)
                                      replace hx134_0 := (HB.out.cell (World.block_lt_of_cell? w _ hx134_0)).trans hx134_0
                                      replace hx134_1 := (HB.out.cell (World.block_lt_of_cell? w _ hx134_1)).trans hx134_1
                                      replace hx134_2 := (HB.out.cell (World.block_lt_of_cell? w _ hx134_2)).trans hx134_2
                                      replace hx134_3 := (HB.out.cell (World.block_lt_of_cell? w _ hx134_3)).trans hx134_3
                                      replace p134 := eq_true p134
                                      replace q134 := eq_true q134
                                      refine start_ (n := 23) (S := fun w' => w'.cell? ⟨gb132, 0, none⟩ = some (.int .i64 ((rd_T60 l0_5 x42_3).f0)) ∧ w'.cell? ⟨gb132, 1, none⟩ = some (.int .i64 ((rd_T60 l0_5 x42_3).f1)) ∧ w'.cell? ⟨gb132, 2, none⟩ = some (.string ((rd_T60 l0_5 x42_3).f2)) ∧ w'.cell? ⟨gb132, 3, none⟩ = some (.string ((rd_T60 l0_5 x42_3).f3)) ∧ w'.cell? ⟨gb129, 0, none⟩ = some (.int .i64 a0_0) ∧ w'.cell? ⟨gb129, 1, none⟩ = some (.int .i64 a0_1) ∧ w'.cell? ⟨gb129, 2, none⟩ = some (.int .i64 a0_2) ∧ w'.cell? ⟨gb129, 3, none⟩ = some (.string a0_3) ∧ w'.cell? ⟨gb129, 4, none⟩ = some (.string a0_4) ∧ w'.cell? ⟨gb129, 5, none⟩ = some (.slice (some ad131) l0_5.length c0_5) ∧ w'.cell? ⟨gb129, 6, none⟩ = some (.slice A0_6 l0_6.length c0_6) ∧ w'.cell? (ad131.add (((ji35)).toNat * 4)) = some (.int .i64 ((rd_T60 l0_5 (ji35)).f0)) ∧ w'.cell? ⟨(ad131.add (((ji35)).toNat * 4)).block, (ad131.add (((ji35)).toNat * 4)).off + 1, none⟩ = some (.int .i64 ((rd_T60 l0_5 (ji35)).f1)) ∧ w'.cell? ⟨(ad131.add (((ji35)).toNat * 4)).block, (ad131.add (((ji35)).toNat * 4)).off + 2, none⟩ = some (.string ((rd_T60 l0_5 (ji35)).f2)) ∧ w'.cell? ⟨(ad131.add (((ji35)).toNat * 4)).block, (ad131.add (((ji35)).toNat * 4)).off + 3, none⟩ = some (.string ((rd_T60 l0_5 (ji35)).f3))) (ds := []) #[false, false, false, false, false, false, false, false, false, false, false, false, false, false, false, false, false, false, false, false, false, false, false] (by kernel_rfl) rfl rfl ⟨(blk_cell BK132.out 0).trans rfl, (blk_cell BK132.out 1).trans rfl, (blk_cell BK132.out 2).trans rfl, (blk_cell BK132.out 3).trans rfl, (blk_cell BK129.out 0).trans rfl, (blk_cell BK129.out 1).trans rfl, (blk_cell BK129.out 2).trans rfl, (blk_cell BK129.out 3).trans rfl, (blk_cell BK129.out 4).trans rfl, (blk_cell BK129.out 5).trans rfl, (blk_cell BK129.out 6).trans rfl, ((HB.out.cell (World.block_lt_of_cell? w _ hw134_0)).trans hw134_0), ((HB.out.cell (World.block_lt_of_cell? w _ hw134_1)).trans hw134_1), ((HB.out.cell (World.block_lt_of_cell? w _ hw134_2)).trans hw134_2), ((HB.out.cell (World.block_lt_of_cell? w _ hw134_3)).trans hw134_3)⟩ (fun hHeld => ?_); refine with_tabW spec_GoodValue.tab11 spec_GoodValue.bits11 (fun HT_ HW_ => ?_)
                                      generalize w50.drew = w51 at BK129 BK132 HB hx134_0 hx134_1 hx134_2 hx134_3 hHeld ⊢
                                      refine take_ (i := 0) (N := some 47) (v := ?_) (a' := ?_) #[true, false, false, false, false, false, false, false, false, false, false, false, false, false, false, false, false, false, false, false, false, false, false] rfl rfl (take_ofW HT_.out HW_.out (by kernel_rfl)) (fun _ _ _ h => h) (Or.inl ⟨by rfl, ?_⟩) hHeld ?_ ?_
                                      rotate_left
                                      · rintro w' ⟨s0, s1, s2, s3, s4, s5, s6, s7, s8, s9, s10, s11, s12, s13, s14⟩
                                        go_simp
                                        with_reducible rfl
                                      rotate_left
                                      · simp only [Act.put, List.setIfInBounds_toArray, List.set_cons_zero, List.set_cons_succ, i64_w, i32_w]
                                        rfl
                                      refine one_ (i := 1) (N := some 48) #[true, true, false, false, false, false, false, false, false, false, false, false, false, false, false, false, false, false, false, false, false, false, false] rfl rfl (one_of HT_.out (by kernel_rfl)) (by decide) (fun K hK => ?_)
                                      refine goes_ Try.func73 (by kernel_rfl) rfl #[.agg #[.int .i64 ((rd_T60 l0_5 x42_3).f0), .int .i64 ((rd_T60 l0_5 x42_3).f1), .string ((rd_T60 l0_5 x42_3).f2), .string ((rd_T60 l0_5 x42_3).f3)]] (by rfl) rfl rfl (by (try simp only [List.map_toArray, List.map_cons, List.map_nil]); first | done | rfl | (simp only [List.length_drop, List.length_take]; rfl)) ?_
                                      with_reducible refine (spec_GoodAtom.calls k3 ((rd_T60 l0_5 x42_3).f0) ((rd_T60 l0_5 x42_3).f1) ((rd_T60 l0_5 x42_3).f2) ((rd_T60 l0_5 x42_3).f3) true _ A31.out).mono ?_
                                      rintro e w52 ⟨rfl, hb⟩
                                      refine ⟨_, rfl, ?_⟩
                                      have n0_ := Aside0.mk (blk_below (g := gb129) (o := .cells #[.int .i64 a0_0, .int .i64 a0_1, .int .i64 a0_2, .string a0_3, .string a0_4, .slice (some ad131) l0_5.length c0_5, .slice A0_6 l0_6.length c0_6] 63 (0, 0)) (by (with_reducible repeat (first | refine blk_drewN ?_ _ | refine blk_drew ?_ | refine blk_alloc ?_ _)); exact BK129.out) hb)
                                      have n1_ := Aside0.mk (blk_below (g := gb132) (o := .cells #[.int .i64 ((rd_T60 l0_5 x42_3).f0), .int .i64 ((rd_T60 l0_5 x42_3).f1), .string ((rd_T60 l0_5 x42_3).f2), .string ((rd_T60 l0_5 x42_3).f3)] 60 (0, 0)) (by (with_reducible repeat (first | refine blk_drewN ?_ _ | refine blk_drew ?_ | refine blk_alloc ?_ _)); exact BK132.out) hb)
                                      have n2_ := Aside0.mk (below_step (by repeat (first | (with_reducible first | exact HB.out | apply below_alloc | apply pw_below_drewN | apply below_drew1 | refine below_set ?_ GE129.out | refine below_set ?_ GE132.out) | exact HB.out)) hb)
                                      clear BK129
                                      clear BK132
                                      clear HB
                                      have BK129 := n0_
                                      have BK132 := n1_
                                      have HB := n2_
                                      clear n0_ n1_ n2_
                                      (try clear hb)
                                      (try clear hb2)
                                      (try clear hk)
                                      (try clear hi)
                                      refine hK.out _ _ ⟨(blk_cell BK132.out 0).trans rfl, (blk_cell BK132.out 1).trans rfl, (blk_cell BK132.out 2).trans rfl, (blk_cell BK132.out 3).trans rfl, (blk_cell BK129.out 0).trans rfl, (blk_cell BK129.out 1).trans rfl, (blk_cell BK129.out 2).trans rfl, (blk_cell BK129.out 3).trans rfl, (blk_cell BK129.out 4).trans rfl, (blk_cell BK129.out 5).trans rfl, (blk_cell BK129.out 6).trans rfl, ((HB.out.cell (World.block_lt_of_cell? w _ hw134_0)).trans hw134_0), ((HB.out.cell (World.block_lt_of_cell? w _ hw134_1)).trans hw134_1), ((HB.out.cell (World.block_lt_of_cell? w _ hw134_2)).trans hw134_2), ((HB.out.cell (World.block_lt_of_cell? w _ hw134_3)).trans hw134_3)⟩ (fun hHeld => ?_)
                                      clear hK K
                                      refine norm_ (a' := ?_) ?_ ?_
                                      rotate_left
                                      · show Act.put _ (some 48) _ = _
                                        simp only [Act.put, List.setIfInBounds_toArray, List.set_cons_zero, List.set_cons_succ, i64_w, i32_w]
                                        rfl
                                      refine pure_ (i := 2) (N := some 49) (v := ?_) (a' := ?_) #[true, true, true, false, false, false, false, false, false, false, false, false, false, false, false, false, false, false, false, false, false, false, false] rfl rfl (any_of HT_.out (by kernel_rfl)) (fun _ _ _ h => h) (Or.inl ⟨by rfl, ?_⟩) ?_ ?_
                                      rotate_left
                                      · intro w'
                                        go_simp
                                        with_reducible rfl
                                      rotate_left
                                      · simp only [Act.put, List.setIfInBounds_toArray, List.set_cons_zero, List.set_cons_succ, i64_w, i32_w]
                                        rfl
                                      refine pure_ (i := 3) (N := some 50) (v := ?_) (a' := ?_) #[true, true, true, true, false, false, false, false, false, false, false, false, false, false, false, false, false, false, false, false, false, false, false] rfl rfl (any_of HT_.out (by kernel_rfl)) (fun _ _ _ h => h) (Or.inl ⟨by rfl, ?_⟩) ?_ ?_
                                      rotate_left
                                      · intro w'
                                        go_simp
                                        with_reducible rfl
                                      rotate_left
                                      · simp only [Act.put, List.setIfInBounds_toArray, List.set_cons_zero, List.set_cons_succ, i64_w, i32_w]
                                        rfl
                                      refine pure_ (i := 4) (N := some 51) (v := ?_) (a' := ?_) #[true, true, true, true, true, false, false, false, false, false, false, false, false, false, false, false, false, false, false, false, false, false, false] rfl rfl (any_of HT_.out (by kernel_rfl)) (fun _ _ _ h => h) (Or.inl ⟨by rfl, ?_⟩) ?_ ?_
                                      rotate_left
                                      · intro w'
                                        go_simp
                                        with_reducible rfl
                                      rotate_left
                                      · simp only [Act.put, List.setIfInBounds_toArray, List.set_cons_zero, List.set_cons_succ, i64_w, i32_w]
                                        rfl
                                      refine take_ (i := 5) (N := some 52) (v := ?_) (a' := ?_) #[true, true, true, true, true, true, false, false, false, false, false, false, false, false, false, false, false, false, false, false, false, false, false] rfl rfl (take_ofW HT_.out HW_.out (by kernel_rfl)) (fun _ _ _ h => h) (Or.inl ⟨by rfl, ?_⟩) hHeld ?_ ?_
                                      rotate_left
                                      · rintro w' ⟨s0, s1, s2, s3, s4, s5, s6, s7, s8, s9, s10, s11, s12, s13, s14⟩
                                        go_simp
                                        with_reducible rfl
                                      rotate_left
                                      · simp only [Act.put, List.setIfInBounds_toArray, List.set_cons_zero, List.set_cons_succ, i64_w, i32_w]
                                        rfl
                                      refine pure_ (i := 6) (N := some 53) (v := ?_) (a' := ?_) #[true, true, true, true, true, true, true, false, false, false, false, false, false, false, false, false, false, false, false, false, false, false, false] rfl rfl (any_of HT_.out (by kernel_rfl)) (fun _ _ _ h => h) (Or.inl ⟨by rfl, ?_⟩) ?_ ?_
                                      rotate_left
                                      · intro w'
                                        go_simp
                                        with_reducible rfl
                                      rotate_left
                                      · simp only [Act.put, List.setIfInBounds_toArray, List.set_cons_zero, List.set_cons_succ, i64_w, i32_w]
                                        rfl
                                      refine pure_ (i := 7) (N := some 54) (v := ?_) (a' := ?_) #[true, true, true, true, true, true, true, true, false, false, false, false, false, false, false, false, false, false, false, false, false, false, false] rfl rfl (any_of HT_.out (by kernel_rfl)) (fun _ _ _ h => h) (Or.inl ⟨by rfl, ?_⟩) ?_ ?_
                                      rotate_left
                                      · intro w'
                                        go_simp
                                        with_reducible rfl
                                      rotate_left
                                      · simp only [Act.put, List.setIfInBounds_toArray, List.set_cons_zero, List.set_cons_succ, i64_w, i32_w]
                                        rfl
                                      refine pure_ (i := 8) (N := some 55) (v := ?_) (a' := ?_) #[true, true, true, true, true, true, true, true, true, false, false, false, false, false, false, false, false, false, false, false, false, false, false] rfl rfl (any_of HT_.out (by kernel_rfl)) (fun _ _ _ h => h) (Or.inl ⟨by rfl, ?_⟩) ?_ ?_
                                      rotate_left
                                      · intro w'
                                        go_simp
                                        with_reducible rfl
                                      rotate_left
                                      · simp only [Act.put, List.setIfInBounds_toArray, List.set_cons_zero, List.set_cons_succ, i64_w, i32_w]
                                        rfl
                                      refine pure_ (i := 9) (N := some 56) (v := ?_) (a' := ?_) #[true, true, true, true, true, true, true, true, true, true, false, false, false, false, false, false, false, false, false, false, false, false, false] rfl rfl (any_of HT_.out (by kernel_rfl)) (fun _ _ _ h => h) (Or.inl ⟨by rfl, ?_⟩) ?_ ?_
                                      rotate_left
                                      · intro w'
                                        go_simp
                                        with_reducible rfl
                                      rotate_left
                                      · simp only [Act.put, List.setIfInBounds_toArray, List.set_cons_zero, List.set_cons_succ, i64_w, i32_w]
                                        rfl
                                      refine pure_ (i := 10) (N := some 57) (v := ?_) (a' := ?_) #[true, true, true, true, true, true, true, true, true, true, true, false, false, false, false, false, false, false, false, false, false, false, false] rfl rfl (any_of HT_.out (by kernel_rfl)) (fun _ _ _ h => h) (Or.inl ⟨by rfl, ?_⟩) ?_ ?_
                                      rotate_left
                                      · intro w'
                                        go_simp
                                        with_reducible rfl
                                      rotate_left
                                      · simp only [Act.put, List.setIfInBounds_toArray, List.set_cons_zero, List.set_cons_succ, i64_w, i32_w]
                                        rfl
                                      refine pure_ (i := 11) (N := some 58) (v := ?_) (a' := ?_) #[true, true, true, true, true, true, true, true, true, true, true, true, false, false, false, false, false, false, false, false, false, false, false] rfl rfl (any_of HT_.out (by kernel_rfl)) (fun _ _ _ h => h) (Or.inl ⟨by rfl, ?_⟩) ?_ ?_
                                      rotate_left
                                      · intro w'
                                        go_simp
                                        with_reducible rfl
                                      rotate_left
                                      · simp only [Act.put, List.setIfInBounds_toArray, List.set_cons_zero, List.set_cons_succ, i64_w, i32_w]
                                        rfl
                                      refine pure_ (i := 12) (N := some 59) (v := ?_) (a' := ?_) #[true, true, true, true, true, true, true, true, true, true, true, true, true, false, false, false, false, false, false, false, false, false, false] rfl rfl (any_of HT_.out (by kernel_rfl)) (fun _ _ _ h => h) (Or.inl ⟨by rfl, ?_⟩) ?_ ?_
                                      rotate_left
                                      · intro w'
                                        go_simp
                                        with_reducible rfl
                                      rotate_left
                                      · simp only [Act.put, List.setIfInBounds_toArray, List.set_cons_zero, List.set_cons_succ, i64_w, i32_w]
                                        rfl
                                      refine pure_ (i := 14) (N := some 61) (v := ?_) (a' := ?_) #[true, true, true, true, true, true, true, true, true, true, true, true, true, false, true, false, false, false, false, false, false, false, false] rfl rfl (any_of HT_.out (by kernel_rfl)) (fun _ _ _ h => h) (Or.inl ⟨by rfl, ?_⟩) ?_ ?_
                                      rotate_left
                                      · intro w'
                                        go_simp
                                        with_reducible rfl
                                      rotate_left
                                      · simp only [Act.put, List.setIfInBounds_toArray, List.set_cons_zero, List.set_cons_succ, i64_w, i32_w]
                                        rfl
                                      refine pure_ (i := 15) (N := some 62) (v := ?_) (a' := ?_) #[true, true, true, true, true, true, true, true, true, true, true, true, true, false, true, true, false, false, false, false, false, false, false] rfl rfl (any_of HT_.out (by kernel_rfl)) (fun _ _ _ h => h) (Or.inl ⟨by rfl, ?_⟩) ?_ ?_
                                      rotate_left
                                      · intro w'
                                        go_simp
                                        with_reducible rfl
                                      rotate_left
                                      · simp only [Act.put, List.setIfInBounds_toArray, List.set_cons_zero, List.set_cons_succ, i64_w, i32_w]
                                        rfl
                                      refine take_ (i := 13) (N := some 60) (v := ?_) (a' := ?_) #[true, true, true, true, true, true, true, true, true, true, true, true, true, true, true, true, false, false, false, false, false, false, false] rfl rfl (take_ofW HT_.out HW_.out (by kernel_rfl)) (fun _ _ _ h => h) (Or.inl ⟨by rfl, ?_⟩) hHeld ?_ ?_
                                      rotate_left
                                      · rintro w' ⟨s0, s1, s2, s3, s4, s5, s6, s7, s8, s9, s10, s11, s12, s13, s14⟩
                                        go_simp
                                        with_reducible rfl
                                      rotate_left
                                      · simp only [Act.put, List.setIfInBounds_toArray, List.set_cons_zero, List.set_cons_succ, i64_w, i32_w]
                                        rfl
                                      refine pure_ (i := 16) (N := some 63) (v := ?_) (a' := ?_) #[true, true, true, true, true, true, true, true, true, true, true, true, true, true, true, true, true, false, false, false, false, false, false] rfl rfl (any_of HT_.out (by kernel_rfl)) (fun _ _ _ h => h) (Or.inl ⟨by rfl, ?_⟩) ?_ ?_
                                      rotate_left
                                      · intro w'
                                        go_simp
                                        with_reducible rfl
                                      rotate_left
                                      · simp only [Act.put, List.setIfInBounds_toArray, List.set_cons_zero, List.set_cons_succ, i64_w, i32_w]
                                        rfl
                                      refine take_ (i := 17) (N := some 64) (v := ?_) (a' := ?_) #[true, true, true, true, true, true, true, true, true, true, true, true, true, true, true, true, true, true, false, false, false, false, false] rfl rfl (take_ofW HT_.out HW_.out (by kernel_rfl)) (fun _ _ _ h => h) (Or.inl ⟨by rfl, ?_⟩) hHeld ?_ ?_
                                      rotate_left
                                      · rintro w' ⟨s0, s1, s2, s3, s4, s5, s6, s7, s8, s9, s10, s11, s12, s13, s14⟩
                                        go_simp
                                        with_reducible rfl
                                      rotate_left
                                      · simp only [Act.put, List.setIfInBounds_toArray, List.set_cons_zero, List.set_cons_succ, i64_w, i32_w]
                                        rfl
                                      refine take_ (i := 18) (N := some 65) (v := ?_) (a' := ?_) #[true, true, true, true, true, true, true, true, true, true, true, true, true, true, true, true, true, true, true, false, false, false, false] rfl rfl (take_ofW HT_.out HW_.out (by kernel_rfl)) (fun _ _ _ h => h) (Or.inl ⟨by rfl, ?_⟩) hHeld ?_ ?_
                                      rotate_left
                                      · rintro w' ⟨s0, s1, s2, s3, s4, s5, s6, s7, s8, s9, s10, s11, s12, s13, s14⟩
                                        go_simp
                                        with_reducible rfl
                                      rotate_left
                                      · simp only [Act.put, List.setIfInBounds_toArray, List.set_cons_zero, List.set_cons_succ, i64_w, i32_w]
                                        rfl
                                      refine one_ (i := 19) (N := some 66) #[true, true, true, true, true, true, true, true, true, true, true, true, true, true, true, true, true, true, true, true, false, false, false] rfl rfl (one_of HT_.out (by kernel_rfl)) (by decide) (fun K hK => ?_)
                                      refine goes_ Try.func74 (by kernel_rfl) rfl #[.agg #[.int .i64 ((rd_T60 l0_5 (ji35)).f0), .int .i64 ((rd_T60 l0_5 (ji35)).f1), .string ((rd_T60 l0_5 (ji35)).f2), .string ((rd_T60 l0_5 (ji35)).f3)], .agg #[.int .i64 ((rd_T60 l0_5 x42_3).f0), .int .i64 ((rd_T60 l0_5 x42_3).f1), .string ((rd_T60 l0_5 x42_3).f2), .string ((rd_T60 l0_5 x42_3).f3)]] (by rfl) rfl rfl (by (try simp only [List.map_toArray, List.map_cons, List.map_nil]); first | done | (simp only [hji35]; rfl) | rfl | (simp only [List.length_drop, List.length_take]; rfl)) ?_
                                      with_reducible refine (spec_l1Cmp.calls k3 ((rd_T60 l0_5 (ji35)).f0) ((rd_T60 l0_5 (ji35)).f1) ((rd_T60 l0_5 (ji35)).f2) ((rd_T60 l0_5 (ji35)).f3) ((rd_T60 l0_5 x42_3).f0) ((rd_T60 l0_5 x42_3).f1) ((rd_T60 l0_5 x42_3).f2) ((rd_T60 l0_5 x42_3).f3) t135 _ A38.out).mono ?_
                                      rintro e w53 ⟨rfl, hb⟩
                                      refine ⟨_, rfl, ?_⟩
                                      have n0_ := Aside0.mk (blk_below (g := gb129) (o := .cells #[.int .i64 a0_0, .int .i64 a0_1, .int .i64 a0_2, .string a0_3, .string a0_4, .slice (some ad131) l0_5.length c0_5, .slice A0_6 l0_6.length c0_6] 63 (0, 0)) (by (with_reducible repeat (first | refine blk_drewN ?_ _ | refine blk_drew ?_ | refine blk_alloc ?_ _)); exact BK129.out) hb)
                                      have n1_ := Aside0.mk (blk_below (g := gb132) (o := .cells #[.int .i64 ((rd_T60 l0_5 x42_3).f0), .int .i64 ((rd_T60 l0_5 x42_3).f1), .string ((rd_T60 l0_5 x42_3).f2), .string ((rd_T60 l0_5 x42_3).f3)] 60 (0, 0)) (by (with_reducible repeat (first | refine blk_drewN ?_ _ | refine blk_drew ?_ | refine blk_alloc ?_ _)); exact BK132.out) hb)
                                      have n2_ := Aside0.mk (below_step (by repeat (first | (with_reducible first | exact HB.out | apply below_alloc | apply pw_below_drewN | apply below_drew1 | refine below_set ?_ GE129.out | refine below_set ?_ GE132.out) | exact HB.out)) hb)
                                      clear BK129
                                      clear BK132
                                      clear HB
                                      have BK129 := n0_
                                      have BK132 := n1_
                                      have HB := n2_
                                      clear n0_ n1_ n2_
                                      (try clear hb)
                                      (try clear hb2)
                                      (try clear hk)
                                      (try clear hi)
                                      refine hK.out _ _ ⟨(blk_cell BK132.out 0).trans rfl, (blk_cell BK132.out 1).trans rfl, (blk_cell BK132.out 2).trans rfl, (blk_cell BK132.out 3).trans rfl, (blk_cell BK129.out 0).trans rfl, (blk_cell BK129.out 1).trans rfl, (blk_cell BK129.out 2).trans rfl, (blk_cell BK129.out 3).trans rfl, (blk_cell BK129.out 4).trans rfl, (blk_cell BK129.out 5).trans rfl, (blk_cell BK129.out 6).trans rfl, ((HB.out.cell (World.block_lt_of_cell? w _ hw134_0)).trans hw134_0), ((HB.out.cell (World.block_lt_of_cell? w _ hw134_1)).trans hw134_1), ((HB.out.cell (World.block_lt_of_cell? w _ hw134_2)).trans hw134_2), ((HB.out.cell (World.block_lt_of_cell? w _ hw134_3)).trans hw134_3)⟩ (fun hHeld => ?_)
                                      clear hK K
                                      refine norm_ (a' := ?_) ?_ ?_
                                      rotate_left
                                      · show Act.put _ (some 66) _ = _
                                        simp only [Act.put, List.setIfInBounds_toArray, List.set_cons_zero, List.set_cons_succ, i64_w, i32_w]
                                        rfl
                                      refine pure_ (i := 20) (N := some 67) (v := ?_) (a' := ?_) #[true, true, true, true, true, true, true, true, true, true, true, true, true, true, true, true, true, true, true, true, true, false, false] rfl rfl (any_of HT_.out (by kernel_rfl)) (fun _ _ _ h => h) (Or.inl ⟨by rfl, ?_⟩) ?_ ?_
                                      rotate_left
                                      · intro w'
                                        go_simp
                                        with_reducible rfl
                                      rotate_left
                                      · simp only [Act.put, List.setIfInBounds_toArray, List.set_cons_zero, List.set_cons_succ, i64_w, i32_w]
                                        rfl
                                      refine pure_ (i := 21) (N := some 68) (v := ?_) (a' := ?_) #[true, true, true, true, true, true, true, true, true, true, true, true, true, true, true, true, true, true, true, true, true, true, false] rfl rfl (any_of HT_.out (by kernel_rfl)) (fun _ _ _ h => h) (Or.inl ⟨by rfl, ?_⟩) ?_ ?_
                                      rotate_left
                                      · intro w'
                                        go_simp
                                        with_reducible rfl
                                      rotate_left
                                      · simp only [Act.put, List.setIfInBounds_toArray, List.set_cons_zero, List.set_cons_succ, i64_w, i32_w]
                                        rfl
                                      refine pure_ (i := 22) (N := some 69) (v := ?_) (a' := ?_) #[true, true, true, true, true, true, true, true, true, true, true, true, true, true, true, true, true, true, true, true, true, true, true] rfl rfl (any_of HT_.out (by kernel_rfl)) (fun _ _ _ h => h) (Or.inl ⟨by rfl, ?_⟩) ?_ ?_
                                      rotate_left
                                      · intro w'
                                        go_simp
                                        with_reducible rfl
                                      rotate_left
                                      · simp only [Act.put, List.setIfInBounds_toArray, List.set_cons_zero, List.set_cons_succ, i64_w, i32_w]
                                        rfl
                                      refine done_ (done_of HT_.out (by kernel_rfl)) ?_
                                      try go_wp2
                                      go_roundg k3
                                      case measure => have := HJ16.out; have := HJ21.out; have := HK3.out; omega
                                      case rel => exact ⟨(wrap64 (x42_3 + 1)), (by first | rfl | (simp; done) | (simp [pw_ne_nil, pw_eq_nil]; done) | (simp [*]; done)), H', ⟨by have := HJ16.out; have := HJ21.out; have := HK3.out; omega⟩, ⟨by (with_reducible repeat (first | refine blk_drewN ?_ _ | refine blk_drew ?_ | refine blk_alloc ?_ _)); exact BK129.out⟩, ⟨by repeat (first | (with_reducible first | exact HB.out | apply below_alloc | apply pw_below_drewN | apply below_drew1 | refine below_set ?_ GE129.out | refine below_set ?_ GE132.out) | exact HB.out)⟩⟩
                                  · rw [if_neg c37] at H
                                    exact absurd H (by simp)
                                · rw [if_neg c36] at H
                                  exact absurd H (by simp)
                              · rw [if_neg c34] at H
                                have c34b0 : decide (0 < x42_3) = false := decide_eq_false c34
                                clear c34
                                have H' := Aside0.mk H
                                clear H
                                have p131 : 0 ≤ (x42_3 : Int) := of_decide_eq_true (by first | (with_reducible assumption) | assumption)
                                have q131 : x42_3 < (l0_5.length : Int) := of_decide_eq_true (by first | (with_reducible assumption) | assumption)
                                obtain ⟨ad131, e131, hx131_0, hx131_1, hx131_2, hx131_3⟩ := at_T60 HR0_5.out x42_3 p131 q131
                                cases e131
                                replace hx131_0 := (HB.out.cell (World.block_lt_of_cell? w _ hx131_0)).trans hx131_0
                                replace hx131_1 := (HB.out.cell (World.block_lt_of_cell? w _ hx131_1)).trans hx131_1
                                replace hx131_2 := (HB.out.cell (World.block_lt_of_cell? w _ hx131_2)).trans hx131_2
                                replace hx131_3 := (HB.out.cell (World.block_lt_of_cell? w _ hx131_3)).trans hx131_3
                                replace p131 := eq_true p131
                                replace q131 := eq_true q131
                                try go_wp2_with (first | ((with_reducible refine gate_dst (N := 4) rfl ?_); (try (refine gate_guard (by rfl) ?_; dsimp only)); refine box_event ?hg (N := 4) ?hd (cs := #[.int .i64 0, .int .i64 0, .string (⟨#[]⟩ : ByteArray), .string (⟨#[]⟩ : ByteArray)]) (t := 60) ?hr ?_; (case hd => rfl); (case hg => rfl); (case hr => first | (go_simp; done) | (go_simp; rfl)); intro gb132 hg w54 hbox hb; have n0_ := Aside0.mk (blk_below (g := gb129) (o := .cells #[.int .i64 a0_0, .int .i64 a0_1, .int .i64 a0_2, .string a0_3, .string a0_4, .slice (some ad131) l0_5.length c0_5, .slice A0_6 l0_6.length c0_6] 63 (0, 0)) (by (with_reducible repeat (first | refine blk_drewN ?_ _ | refine blk_drew ?_ | refine blk_alloc ?_ _)); exact BK129.out) hb); have n1_ := Aside0.mk (below_step (by repeat (first | (with_reducible first | exact HB.out | apply below_alloc | apply pw_below_drewN | apply below_drew1 | refine below_set ?_ GE129.out) | exact HB.out)) hb); have n2_ := Aside0.mk (hbox); have n3_ := Aside0.mk ((by rw [hg]; exact (below_size (by repeat (first | (with_reducible first | exact HB.out | apply below_alloc | apply pw_below_drewN | apply below_drew1 | refine below_set ?_ GE129.out) | exact HB.out))) : w.heap.size ≤ gb132)); have n4_ := Aside0.mk ((by rw [hg]; exact (below_size (by repeat (first | (with_reducible first | exact HB.out | apply below_alloc | apply pw_below_drewN | apply below_drew1 | refine below_set ?_ GE129.out) | exact HB.out))) : w.heap.size ≤ gb132)); have n5_ := Aside0.mk ((by rw [hg]; exact Nat.ne_of_lt (blk_lt (g := gb129) (o := .cells #[.int .i64 a0_0, .int .i64 a0_1, .int .i64 a0_2, .string a0_3, .string a0_4, .slice (some ad131) l0_5.length c0_5, .slice A0_6 l0_6.length c0_6] 63 (0, 0)) (by (with_reducible repeat (first | refine blk_drewN ?_ _ | refine blk_drew ?_ | refine blk_alloc ?_ _)); exact BK129.out)) : gb129 ≠ gb132)); have n6_ := Aside0.mk ((by rw [hg]; exact Nat.ne_of_gt (blk_lt (g := gb129) (o := .cells #[.int .i64 a0_0, .int .i64 a0_1, .int .i64 a0_2, .string a0_3, .string a0_4, .slice (some ad131) l0_5.length c0_5, .slice A0_6 l0_6.length c0_6] 63 (0, 0)) (by (with_reducible repeat (first | refine blk_drewN ?_ _ | refine blk_drew ?_ | refine blk_alloc ?_ _)); exact BK129.out)) : gb132 ≠ gb129)); clear BK129; clear HB; have BK129 := n0_; have HB := n1_; have BK132 := n2_; have GW132 := n3_; have GE132 := n4_; have NB129_132 := n5_; have NB132_129 := n6_; clear n0_ n1_ n2_ n3_ n4_ n5_ n6_; clear hb hbox hg; have hnb55 := NB132_129.out; have hnc55 := NB129_132.out; have hcz56_0 : w54.cell? ⟨gb132, 0, none⟩ = some (.int .i64 0) := (blk_cell BK132.out 0).trans rfl; have hcz56_1 : w54.cell? ⟨gb132, 1, none⟩ = some (.int .i64 0) := (blk_cell BK132.out 1).trans rfl; have hcz56_2 : w54.cell? ⟨gb132, 2, none⟩ = some (.string (⟨#[]⟩ : ByteArray)) := (blk_cell BK132.out 2).trans rfl; have hcz56_3 : w54.cell? ⟨gb132, 3, none⟩ = some (.string (⟨#[]⟩ : ByteArray)) := (blk_cell BK132.out 3).trans rfl; have hfz56_0 := blk_frozen BK132.out 0; have hfz56_1 := blk_frozen BK132.out 1; have hfz56_2 := blk_frozen BK132.out 2; have hfz56_3 := blk_frozen BK132.out 3))
                                have n0_ : Aside0 (((((w54.setCell ⟨gb132, 0, none⟩ (.int .i64 ((rd_T60 l0_5 x42_3).f0))).setCell ⟨gb132, 1, none⟩ (.int .i64 ((rd_T60 l0_5 x42_3).f1))).setCell ⟨gb132, 2, none⟩ (.string ((rd_T60 l0_5 x42_3).f2))).setCell ⟨gb132, 3, none⟩ (.string ((rd_T60 l0_5 x42_3).f3))).heap[gb129]? = some (.cells #[.int .i64 a0_0, .int .i64 a0_1, .int .i64 a0_2, .string a0_3, .string a0_4, .slice (some ad131) l0_5.length c0_5, .slice A0_6 l0_6.length c0_6] 63 (0, 0))) := ⟨by (with_reducible repeat (first | refine blk_drewN ?_ _ | refine blk_drew ?_ | refine blk_alloc ?_ _)); refine blk_far ?_ NB129_132.out _; (with_reducible repeat (first | refine blk_drewN ?_ _ | refine blk_drew ?_ | refine blk_alloc ?_ _)); refine blk_far ?_ NB129_132.out _; (with_reducible repeat (first | refine blk_drewN ?_ _ | refine blk_drew ?_ | refine blk_alloc ?_ _)); refine blk_far ?_ NB129_132.out _; (with_reducible repeat (first | refine blk_drewN ?_ _ | refine blk_drew ?_ | refine blk_alloc ?_ _)); refine blk_far ?_ NB129_132.out _; (with_reducible repeat (first | refine blk_drewN ?_ _ | refine blk_drew ?_ | refine blk_alloc ?_ _)); exact BK129.out⟩
                                have n1_ : Aside0 (((((w54.setCell ⟨gb132, 0, none⟩ (.int .i64 ((rd_T60 l0_5 x42_3).f0))).setCell ⟨gb132, 1, none⟩ (.int .i64 ((rd_T60 l0_5 x42_3).f1))).setCell ⟨gb132, 2, none⟩ (.string ((rd_T60 l0_5 x42_3).f2))).setCell ⟨gb132, 3, none⟩ (.string ((rd_T60 l0_5 x42_3).f3))).heap[gb132]? = some (.cells #[.int .i64 ((rd_T60 l0_5 x42_3).f0), .int .i64 ((rd_T60 l0_5 x42_3).f1), .string ((rd_T60 l0_5 x42_3).f2), .string ((rd_T60 l0_5 x42_3).f3)] 60 (0, 0))) := ⟨by (with_reducible repeat (first | refine blk_drewN ?_ _ | refine blk_drew ?_ | refine blk_alloc ?_ _)); refine blk_put (cs := #[.int .i64 ((rd_T60 l0_5 x42_3).f0), .int .i64 ((rd_T60 l0_5 x42_3).f1), .string ((rd_T60 l0_5 x42_3).f2), .string (⟨#[]⟩ : ByteArray)]) ?_ 3 _ rfl; (with_reducible repeat (first | refine blk_drewN ?_ _ | refine blk_drew ?_ | refine blk_alloc ?_ _)); refine blk_put (cs := #[.int .i64 ((rd_T60 l0_5 x42_3).f0), .int .i64 ((rd_T60 l0_5 x42_3).f1), .string (⟨#[]⟩ : ByteArray), .string (⟨#[]⟩ : ByteArray)]) ?_ 2 _ rfl; (with_reducible repeat (first | refine blk_drewN ?_ _ | refine blk_drew ?_ | refine blk_alloc ?_ _)); refine blk_put (cs := #[.int .i64 ((rd_T60 l0_5 x42_3).f0), .int .i64 0, .string (⟨#[]⟩ : ByteArray), .string (⟨#[]⟩ : ByteArray)]) ?_ 1 _ rfl; (with_reducible repeat (first | refine blk_drewN ?_ _ | refine blk_drew ?_ | refine blk_alloc ?_ _)); refine blk_put (cs := #[.int .i64 0, .int .i64 0, .string (⟨#[]⟩ : ByteArray), .string (⟨#[]⟩ : ByteArray)]) ?_ 0 _ rfl; (with_reducible repeat (first | refine blk_drewN ?_ _ | refine blk_drew ?_ | refine blk_alloc ?_ _)); exact BK132.out⟩
                                have n2_ : Aside0 (Below w.heap.size w ((((w54.setCell ⟨gb132, 0, none⟩ (.int .i64 ((rd_T60 l0_5 x42_3).f0))).setCell ⟨gb132, 1, none⟩ (.int .i64 ((rd_T60 l0_5 x42_3).f1))).setCell ⟨gb132, 2, none⟩ (.string ((rd_T60 l0_5 x42_3).f2))).setCell ⟨gb132, 3, none⟩ (.string ((rd_T60 l0_5 x42_3).f3)))) := ⟨by repeat (first | (with_reducible first | exact HB.out | apply below_alloc | apply pw_below_drewN | apply below_drew1 | refine below_set ?_ GE129.out | refine below_set ?_ GE132.out) | exact HB.out)⟩
                                (try clear BK129)
                                (try clear BK132)
                                (try clear HB)
                                generalize ((((w54.setCell ⟨gb132, 0, none⟩ (.int .i64 ((rd_T60 l0_5 x42_3).f0))).setCell ⟨gb132, 1, none⟩ (.int .i64 ((rd_T60 l0_5 x42_3).f1))).setCell ⟨gb132, 2, none⟩ (.string ((rd_T60 l0_5 x42_3).f2))).setCell ⟨gb132, 3, none⟩ (.string ((rd_T60 l0_5 x42_3).f3))) = w57 at n0_ n1_ n2_ ⊢
                                have BK129 := n0_
                                have BK132 := n1_
                                have HB := n2_
                                clear n0_ n1_ n2_
                                have n0_ := Aside0.mk (blk_drew BK129.out)
                                have n1_ := Aside0.mk (blk_drew BK132.out)
                                have n2_ := Aside0.mk (below_drew1 HB.out)
                                clear BK129
                                clear BK132
                                clear HB
                                have BK129 := n0_
                                have BK132 := n1_
                                have HB := n2_
                                clear n0_ n1_ n2_
                                refine start_ (n := 23) (S := fun w' => w'.cell? ⟨gb132, 0, none⟩ = some (.int .i64 ((rd_T60 l0_5 x42_3).f0)) ∧ w'.cell? ⟨gb132, 1, none⟩ = some (.int .i64 ((rd_T60 l0_5 x42_3).f1)) ∧ w'.cell? ⟨gb132, 2, none⟩ = some (.string ((rd_T60 l0_5 x42_3).f2)) ∧ w'.cell? ⟨gb132, 3, none⟩ = some (.string ((rd_T60 l0_5 x42_3).f3)) ∧ w'.cell? ⟨gb129, 0, none⟩ = some (.int .i64 a0_0) ∧ w'.cell? ⟨gb129, 1, none⟩ = some (.int .i64 a0_1) ∧ w'.cell? ⟨gb129, 2, none⟩ = some (.int .i64 a0_2) ∧ w'.cell? ⟨gb129, 3, none⟩ = some (.string a0_3) ∧ w'.cell? ⟨gb129, 4, none⟩ = some (.string a0_4) ∧ w'.cell? ⟨gb129, 5, none⟩ = some (.slice (some ad131) l0_5.length c0_5) ∧ w'.cell? ⟨gb129, 6, none⟩ = some (.slice A0_6 l0_6.length c0_6)) (ds := []) #[false, false, false, false, false, false, false, false, false, false, false, false, false, false, false, false, false, false, false, false, false, false, false] (by kernel_rfl) rfl rfl ⟨(blk_cell BK132.out 0).trans rfl, (blk_cell BK132.out 1).trans rfl, (blk_cell BK132.out 2).trans rfl, (blk_cell BK132.out 3).trans rfl, (blk_cell BK129.out 0).trans rfl, (blk_cell BK129.out 1).trans rfl, (blk_cell BK129.out 2).trans rfl, (blk_cell BK129.out 3).trans rfl, (blk_cell BK129.out 4).trans rfl, (blk_cell BK129.out 5).trans rfl, (blk_cell BK129.out 6).trans rfl⟩ (fun hHeld => ?_); refine with_tabW spec_GoodValue.tab11 spec_GoodValue.bits11 (fun HT_ HW_ => ?_)
                                generalize w57.drew = w58 at BK129 BK132 HB hHeld ⊢
                                refine take_ (i := 0) (N := some 47) (v := ?_) (a' := ?_) #[true, false, false, false, false, false, false, false, false, false, false, false, false, false, false, false, false, false, false, false, false, false, false] rfl rfl (take_ofW HT_.out HW_.out (by kernel_rfl)) (fun _ _ _ h => h) (Or.inl ⟨by rfl, ?_⟩) hHeld ?_ ?_
                                rotate_left
                                · rintro w' ⟨s0, s1, s2, s3, s4, s5, s6, s7, s8, s9, s10⟩
                                  go_simp
                                  with_reducible rfl
                                rotate_left
                                · simp only [Act.put, List.setIfInBounds_toArray, List.set_cons_zero, List.set_cons_succ, i64_w, i32_w]
                                  rfl
                                refine one_ (i := 1) (N := some 48) #[true, true, false, false, false, false, false, false, false, false, false, false, false, false, false, false, false, false, false, false, false, false, false] rfl rfl (one_of HT_.out (by kernel_rfl)) (by decide) (fun K hK => ?_)
                                refine goes_ Try.func73 (by kernel_rfl) rfl #[.agg #[.int .i64 ((rd_T60 l0_5 x42_3).f0), .int .i64 ((rd_T60 l0_5 x42_3).f1), .string ((rd_T60 l0_5 x42_3).f2), .string ((rd_T60 l0_5 x42_3).f3)]] (by rfl) rfl rfl (by (try simp only [List.map_toArray, List.map_cons, List.map_nil]); first | done | rfl | (simp only [List.length_drop, List.length_take]; rfl)) ?_
                                with_reducible refine (spec_GoodAtom.calls k3 ((rd_T60 l0_5 x42_3).f0) ((rd_T60 l0_5 x42_3).f1) ((rd_T60 l0_5 x42_3).f2) ((rd_T60 l0_5 x42_3).f3) true _ A31.out).mono ?_
                                rintro e w59 ⟨rfl, hb⟩
                                refine ⟨_, rfl, ?_⟩
                                have n0_ := Aside0.mk (blk_below (g := gb129) (o := .cells #[.int .i64 a0_0, .int .i64 a0_1, .int .i64 a0_2, .string a0_3, .string a0_4, .slice (some ad131) l0_5.length c0_5, .slice A0_6 l0_6.length c0_6] 63 (0, 0)) (by (with_reducible repeat (first | refine blk_drewN ?_ _ | refine blk_drew ?_ | refine blk_alloc ?_ _)); exact BK129.out) hb)
                                have n1_ := Aside0.mk (blk_below (g := gb132) (o := .cells #[.int .i64 ((rd_T60 l0_5 x42_3).f0), .int .i64 ((rd_T60 l0_5 x42_3).f1), .string ((rd_T60 l0_5 x42_3).f2), .string ((rd_T60 l0_5 x42_3).f3)] 60 (0, 0)) (by (with_reducible repeat (first | refine blk_drewN ?_ _ | refine blk_drew ?_ | refine blk_alloc ?_ _)); exact BK132.out) hb)
                                have n2_ := Aside0.mk (below_step (by repeat (first | (with_reducible first | exact HB.out | apply below_alloc | apply pw_below_drewN | apply below_drew1 | refine below_set ?_ GE129.out | refine below_set ?_ GE132.out) | exact HB.out)) hb)
                                clear BK129
                                clear BK132
                                clear HB
                                have BK129 := n0_
                                have BK132 := n1_
                                have HB := n2_
                                clear n0_ n1_ n2_
                                (try clear hb)
                                (try clear hb2)
                                (try clear hk)
                                (try clear hi)
                                refine hK.out _ _ ⟨(blk_cell BK132.out 0).trans rfl, (blk_cell BK132.out 1).trans rfl, (blk_cell BK132.out 2).trans rfl, (blk_cell BK132.out 3).trans rfl, (blk_cell BK129.out 0).trans rfl, (blk_cell BK129.out 1).trans rfl, (blk_cell BK129.out 2).trans rfl, (blk_cell BK129.out 3).trans rfl, (blk_cell BK129.out 4).trans rfl, (blk_cell BK129.out 5).trans rfl, (blk_cell BK129.out 6).trans rfl⟩ (fun hHeld => ?_)
                                clear hK K
                                refine norm_ (a' := ?_) ?_ ?_
                                rotate_left
                                · show Act.put _ (some 48) _ = _
                                  simp only [Act.put, List.setIfInBounds_toArray, List.set_cons_zero, List.set_cons_succ, i64_w, i32_w]
                                  rfl
                                refine pure_ (i := 2) (N := some 49) (v := ?_) (a' := ?_) #[true, true, true, false, false, false, false, false, false, false, false, false, false, false, false, false, false, false, false, false, false, false, false] rfl rfl (any_of HT_.out (by kernel_rfl)) (fun _ _ _ h => h) (Or.inl ⟨by rfl, ?_⟩) ?_ ?_
                                rotate_left
                                · intro w'
                                  go_simp
                                  with_reducible rfl
                                rotate_left
                                · simp only [Act.put, List.setIfInBounds_toArray, List.set_cons_zero, List.set_cons_succ, i64_w, i32_w]
                                  rfl
                                refine pure_ (i := 3) (N := some 50) (v := ?_) (a' := ?_) #[true, true, true, true, false, false, false, false, false, false, false, false, false, false, false, false, false, false, false, false, false, false, false] rfl rfl (any_of HT_.out (by kernel_rfl)) (fun _ _ _ h => h) (Or.inl ⟨by rfl, ?_⟩) ?_ ?_
                                rotate_left
                                · intro w'
                                  go_simp
                                  with_reducible rfl
                                rotate_left
                                · simp only [Act.put, List.setIfInBounds_toArray, List.set_cons_zero, List.set_cons_succ, i64_w, i32_w]
                                  rfl
                                refine pure_ (i := 4) (N := some 51) (v := ?_) (a' := ?_) #[true, true, true, true, true, false, false, false, false, false, false, false, false, false, false, false, false, false, false, false, false, false, false] rfl rfl (any_of HT_.out (by kernel_rfl)) (fun _ _ _ h => h) (Or.inl ⟨by rfl, ?_⟩) ?_ ?_
                                rotate_left
                                · intro w'
                                  go_simp
                                  with_reducible rfl
                                rotate_left
                                · simp only [Act.put, List.setIfInBounds_toArray, List.set_cons_zero, List.set_cons_succ, i64_w, i32_w]
                                  rfl
                                refine take_ (i := 5) (N := some 52) (v := ?_) (a' := ?_) #[true, true, true, true, true, true, false, false, false, false, false, false, false, false, false, false, false, false, false, false, false, false, false] rfl rfl (take_ofW HT_.out HW_.out (by kernel_rfl)) (fun _ _ _ h => h) (Or.inl ⟨by rfl, ?_⟩) hHeld ?_ ?_
                                rotate_left
                                · rintro w' ⟨s0, s1, s2, s3, s4, s5, s6, s7, s8, s9, s10⟩
                                  go_simp
                                  with_reducible rfl
                                rotate_left
                                · simp only [Act.put, List.setIfInBounds_toArray, List.set_cons_zero, List.set_cons_succ, i64_w, i32_w]
                                  rfl
                                refine pure_ (i := 6) (N := some 53) (v := ?_) (a' := ?_) #[true, true, true, true, true, true, true, false, false, false, false, false, false, false, false, false, false, false, false, false, false, false, false] rfl rfl (any_of HT_.out (by kernel_rfl)) (fun _ _ _ h => h) (Or.inl ⟨by rfl, ?_⟩) ?_ ?_
                                rotate_left
                                · intro w'
                                  go_simp
                                  with_reducible rfl
                                rotate_left
                                · simp only [Act.put, List.setIfInBounds_toArray, List.set_cons_zero, List.set_cons_succ, i64_w, i32_w]
                                  rfl
                                refine pure_ (i := 7) (N := some 54) (v := ?_) (a' := ?_) #[true, true, true, true, true, true, true, true, false, false, false, false, false, false, false, false, false, false, false, false, false, false, false] rfl rfl (any_of HT_.out (by kernel_rfl)) (fun _ _ _ h => h) (Or.inl ⟨by rfl, ?_⟩) ?_ ?_
                                rotate_left
                                · intro w'
                                  go_simp
                                  with_reducible rfl
                                rotate_left
                                · simp only [Act.put, List.setIfInBounds_toArray, List.set_cons_zero, List.set_cons_succ, i64_w, i32_w]
                                  rfl
                                refine pure_ (i := 8) (N := some 55) (v := ?_) (a' := ?_) #[true, true, true, true, true, true, true, true, true, false, false, false, false, false, false, false, false, false, false, false, false, false, false] rfl rfl (any_of HT_.out (by kernel_rfl)) (fun _ _ _ h => h) (Or.inl ⟨by rfl, ?_⟩) ?_ ?_
                                rotate_left
                                · intro w'
                                  go_simp
                                  with_reducible rfl
                                rotate_left
                                · simp only [Act.put, List.setIfInBounds_toArray, List.set_cons_zero, List.set_cons_succ, i64_w, i32_w]
                                  rfl
                                refine pure_ (i := 9) (N := some 56) (v := ?_) (a' := ?_) #[true, true, true, true, true, true, true, true, true, true, false, false, false, false, false, false, false, false, false, false, false, false, false] rfl rfl (any_of HT_.out (by kernel_rfl)) (fun _ _ _ h => h) (Or.inl ⟨by rfl, ?_⟩) ?_ ?_
                                rotate_left
                                · intro w'
                                  go_simp
                                  with_reducible rfl
                                rotate_left
                                · simp only [Act.put, List.setIfInBounds_toArray, List.set_cons_zero, List.set_cons_succ, i64_w, i32_w]
                                  rfl
                                refine pure_ (i := 10) (N := some 57) (v := ?_) (a' := ?_) #[true, true, true, true, true, true, true, true, true, true, true, false, false, false, false, false, false, false, false, false, false, false, false] rfl rfl (any_of HT_.out (by kernel_rfl)) (fun _ _ _ h => h) (Or.inl ⟨by rfl, ?_⟩) ?_ ?_
                                rotate_left
                                · intro w'
                                  go_simp
                                  with_reducible rfl
                                rotate_left
                                · simp only [Act.put, List.setIfInBounds_toArray, List.set_cons_zero, List.set_cons_succ, i64_w, i32_w]
                                  rfl
                                refine pure_ (i := 11) (N := some 58) (v := ?_) (a' := ?_) #[true, true, true, true, true, true, true, true, true, true, true, true, false, false, false, false, false, false, false, false, false, false, false] rfl rfl (any_of HT_.out (by kernel_rfl)) (fun _ _ _ h => h) (Or.inl ⟨by rfl, ?_⟩) ?_ ?_
                                rotate_left
                                · intro w'
                                  go_simp
                                  with_reducible rfl
                                rotate_left
                                · simp only [Act.put, List.setIfInBounds_toArray, List.set_cons_zero, List.set_cons_succ, i64_w, i32_w]
                                  rfl
                                refine pure_ (i := 12) (N := some 59) (v := undef) (a' := ?_) #[true, true, true, true, true, true, true, true, true, true, true, true, true, false, false, false, false, false, false, false, false, false, false] rfl rfl (any_of HT_.out (by kernel_rfl)) (fun _ _ _ h => h) (Or.inr ⟨by rfl, rfl⟩) ?_ ?_
                                rotate_left
                                · simp only [Act.put, List.setIfInBounds_toArray, List.set_cons_zero, List.set_cons_succ, i64_w, i32_w]
                                  rfl
                                refine pure_ (i := 13) (N := some 60) (v := undef) (a' := ?_) #[true, true, true, true, true, true, true, true, true, true, true, true, true, true, false, false, false, false, false, false, false, false, false] rfl rfl (any_of HT_.out (by kernel_rfl)) (fun _ _ _ h => h) (Or.inr ⟨by rfl, rfl⟩) ?_ ?_
                                rotate_left
                                · simp only [Act.put, List.setIfInBounds_toArray, List.set_cons_zero, List.set_cons_succ, i64_w, i32_w]
                                  rfl
                                refine pure_ (i := 14) (N := some 61) (v := undef) (a' := ?_) #[true, true, true, true, true, true, true, true, true, true, true, true, true, true, true, false, false, false, false, false, false, false, false] rfl rfl (any_of HT_.out (by kernel_rfl)) (fun _ _ _ h => h) (Or.inr ⟨by rfl, rfl⟩) ?_ ?_
                                rotate_left
                                · simp only [Act.put, List.setIfInBounds_toArray, List.set_cons_zero, List.set_cons_succ, i64_w, i32_w]
                                  rfl
                                refine pure_ (i := 15) (N := some 62) (v := undef) (a' := ?_) #[true, true, true, true, true, true, true, true, true, true, true, true, true, true, true, true, false, false, false, false, false, false, false] rfl rfl (any_of HT_.out (by kernel_rfl)) (fun _ _ _ h => h) (Or.inr ⟨by rfl, rfl⟩) ?_ ?_
                                rotate_left
                                · simp only [Act.put, List.setIfInBounds_toArray, List.set_cons_zero, List.set_cons_succ, i64_w, i32_w]
                                  rfl
                                refine pure_ (i := 16) (N := some 63) (v := undef) (a' := ?_) #[true, true, true, true, true, true, true, true, true, true, true, true, true, true, true, true, true, false, false, false, false, false, false] rfl rfl (any_of HT_.out (by kernel_rfl)) (fun _ _ _ h => h) (Or.inr ⟨by rfl, rfl⟩) ?_ ?_
                                rotate_left
                                · simp only [Act.put, List.setIfInBounds_toArray, List.set_cons_zero, List.set_cons_succ, i64_w, i32_w]
                                  rfl
                                refine pure_ (i := 17) (N := some 64) (v := undef) (a' := ?_) #[true, true, true, true, true, true, true, true, true, true, true, true, true, true, true, true, true, true, false, false, false, false, false] rfl rfl (any_of HT_.out (by kernel_rfl)) (fun _ _ _ h => h) (Or.inr ⟨by rfl, rfl⟩) ?_ ?_
                                rotate_left
                                · simp only [Act.put, List.setIfInBounds_toArray, List.set_cons_zero, List.set_cons_succ, i64_w, i32_w]
                                  rfl
                                refine pure_ (i := 18) (N := some 65) (v := undef) (a' := ?_) #[true, true, true, true, true, true, true, true, true, true, true, true, true, true, true, true, true, true, true, false, false, false, false] rfl rfl (any_of HT_.out (by kernel_rfl)) (fun _ _ _ h => h) (Or.inr ⟨by rfl, rfl⟩) ?_ ?_
                                rotate_left
                                · simp only [Act.put, List.setIfInBounds_toArray, List.set_cons_zero, List.set_cons_succ, i64_w, i32_w]
                                  rfl
                                refine pure_ (i := 19) (N := some 66) (v := undef) (a' := ?_) #[true, true, true, true, true, true, true, true, true, true, true, true, true, true, true, true, true, true, true, true, false, false, false] rfl rfl (any_of HT_.out (by kernel_rfl)) (fun _ _ _ h => h) (Or.inr ⟨by rfl, rfl⟩) ?_ ?_
                                rotate_left
                                · simp only [Act.put, List.setIfInBounds_toArray, List.set_cons_zero, List.set_cons_succ, i64_w, i32_w]
                                  rfl
                                refine pure_ (i := 20) (N := some 67) (v := undef) (a' := ?_) #[true, true, true, true, true, true, true, true, true, true, true, true, true, true, true, true, true, true, true, true, true, false, false] rfl rfl (any_of HT_.out (by kernel_rfl)) (fun _ _ _ h => h) (Or.inr ⟨by rfl, rfl⟩) ?_ ?_
                                rotate_left
                                · simp only [Act.put, List.setIfInBounds_toArray, List.set_cons_zero, List.set_cons_succ, i64_w, i32_w]
                                  rfl
                                refine pure_ (i := 21) (N := some 68) (v := ?_) (a' := ?_) #[true, true, true, true, true, true, true, true, true, true, true, true, true, true, true, true, true, true, true, true, true, true, false] rfl rfl (any_of HT_.out (by kernel_rfl)) (fun _ _ _ h => h) (Or.inl ⟨by rfl, ?_⟩) ?_ ?_
                                rotate_left
                                · intro w'
                                  go_simp
                                  with_reducible rfl
                                rotate_left
                                · simp only [Act.put, List.setIfInBounds_toArray, List.set_cons_zero, List.set_cons_succ, i64_w, i32_w]
                                  rfl
                                refine pure_ (i := 22) (N := some 69) (v := ?_) (a' := ?_) #[true, true, true, true, true, true, true, true, true, true, true, true, true, true, true, true, true, true, true, true, true, true, true] rfl rfl (any_of HT_.out (by kernel_rfl)) (fun _ _ _ h => h) (Or.inl ⟨by rfl, ?_⟩) ?_ ?_
                                rotate_left
                                · intro w'
                                  go_simp
                                  with_reducible rfl
                                rotate_left
                                · simp only [Act.put, List.setIfInBounds_toArray, List.set_cons_zero, List.set_cons_succ, i64_w, i32_w]
                                  rfl
                                refine done_ (done_of HT_.out (by kernel_rfl)) ?_
                                try go_wp2
                                go_roundg k3
                                case measure => have := HJ16.out; have := HJ21.out; have := HK3.out; omega
                                case rel => exact ⟨(wrap64 (x42_3 + 1)), (by first | rfl | (simp; done) | (simp [pw_ne_nil, pw_eq_nil]; done) | (simp [*]; done)), H', ⟨by have := HJ16.out; have := HJ21.out; have := HK3.out; omega⟩, ⟨by (with_reducible repeat (first | refine blk_drewN ?_ _ | refine blk_drew ?_ | refine blk_alloc ?_ _)); exact BK129.out⟩, ⟨by repeat (first | (with_reducible first | exact HB.out | apply below_alloc | apply pw_below_drewN | apply below_drew1 | refine below_set ?_ GE129.out | refine below_set ?_ GE132.out) | exact HB.out)⟩⟩
                            · rw [if_neg c33] at H
                              have c33b0 : (a0_0 == 2) = false := beq_eq_false_iff_ne.mpr c33
                              have c33b1 : (a0_0 != 2) = true := bne_iff_ne.mpr c33
                              have H' := Aside0.mk H
                              clear H
                              have p131 : 0 ≤ (x42_3 : Int) := of_decide_eq_true (by first | (with_reducible assumption) | assumption)
                              have q131 : x42_3 < (l0_5.length : Int) := of_decide_eq_true (by first | (with_reducible assumption) | assumption)
                              obtain ⟨ad131, e131, hx131_0, hx131_1, hx131_2, hx131_3⟩ := at_T60 HR0_5.out x42_3 p131 q131
                              cases e131
                              replace hx131_0 := (HB.out.cell (World.block_lt_of_cell? w _ hx131_0)).trans hx131_0
                              replace hx131_1 := (HB.out.cell (World.block_lt_of_cell? w _ hx131_1)).trans hx131_1
                              replace hx131_2 := (HB.out.cell (World.block_lt_of_cell? w _ hx131_2)).trans hx131_2
                              replace hx131_3 := (HB.out.cell (World.block_lt_of_cell? w _ hx131_3)).trans hx131_3
                              replace p131 := eq_true p131
                              replace q131 := eq_true q131
                              try go_wp2_with (first | ((with_reducible refine gate_dst (N := 4) rfl ?_); (try (refine gate_guard (by rfl) ?_; dsimp only)); refine box_event ?hg (N := 4) ?hd (cs := #[.int .i64 0, .int .i64 0, .string (⟨#[]⟩ : ByteArray), .string (⟨#[]⟩ : ByteArray)]) (t := 60) ?hr ?_; (case hd => rfl); (case hg => rfl); (case hr => first | (go_simp; done) | (go_simp; rfl)); intro gb132 hg w60 hbox hb; have n0_ := Aside0.mk (blk_below (g := gb129) (o := .cells #[.int .i64 a0_0, .int .i64 a0_1, .int .i64 a0_2, .string a0_3, .string a0_4, .slice (some ad131) l0_5.length c0_5, .slice A0_6 l0_6.length c0_6] 63 (0, 0)) (by (with_reducible repeat (first | refine blk_drewN ?_ _ | refine blk_drew ?_ | refine blk_alloc ?_ _)); exact BK129.out) hb); have n1_ := Aside0.mk (below_step (by repeat (first | (with_reducible first | exact HB.out | apply below_alloc | apply pw_below_drewN | apply below_drew1 | refine below_set ?_ GE129.out) | exact HB.out)) hb); have n2_ := Aside0.mk (hbox); have n3_ := Aside0.mk ((by rw [hg]; exact (below_size (by repeat (first | (with_reducible first | exact HB.out | apply below_alloc | apply pw_below_drewN | apply below_drew1 | refine below_set ?_ GE129.out) | exact HB.out))) : w.heap.size ≤ gb132)); have n4_ := Aside0.mk ((by rw [hg]; exact (below_size (by repeat (first | (with_reducible first | exact HB.out | apply below_alloc | apply pw_below_drewN | apply below_drew1 | refine below_set ?_ GE129.out) | exact HB.out))) : w.heap.size ≤ gb132)); have n5_ := Aside0.mk ((by rw [hg]; exact Nat.ne_of_lt (blk_lt (g := gb129) (o := .cells #[.int .i64 a0_0, .int .i64 a0_1, .int .i64 a0_2, .string a0_3, .string a0_4, .slice (some ad131) l0_5.length c0_5, .slice A0_6 l0_6.length c0_6] 63 (0, 0)) (by (with_reducible repeat (first | refine blk_drewN ?_ _ | refine blk_drew ?_ | refine blk_alloc ?_ _)); exact BK129.out)) : gb129 ≠ gb132)); have n6_ := Aside0.mk ((by rw [hg]; exact Nat.ne_of_gt (blk_lt (g := gb129) (o := .cells #[.int .i64 a0_0, .int .i64 a0_1, .int .i64 a0_2, .string a0_3, .string a0_4, .slice (some ad131) l0_5.length c0_5, .slice A0_6 l0_6.length c0_6] 63 (0, 0)) (by (with_reducible repeat (first | refine blk_drewN ?_ _ | refine blk_drew ?_ | refine blk_alloc ?_ _)); exact BK129.out)) : gb132 ≠ gb129)); clear BK129; clear HB; have BK129 := n0_; have HB := n1_; have BK132 := n2_; have GW132 := n3_; have GE132 := n4_; have NB129_132 := n5_; have NB132_129 := n6_; clear n0_ n1_ n2_ n3_ n4_ n5_ n6_; clear hb hbox hg; have hnb61 := NB132_129.out; have hnc61 := NB129_132.out; have hcz62_0 : w60.cell? ⟨gb132, 0, none⟩ = some (.int .i64 0) := (blk_cell BK132.out 0).trans rfl; have hcz62_1 : w60.cell? ⟨gb132, 1, none⟩ = some (.int .i64 0) := (blk_cell BK132.out 1).trans rfl; have hcz62_2 : w60.cell? ⟨gb132, 2, none⟩ = some (.string (⟨#[]⟩ : ByteArray)) := (blk_cell BK132.out 2).trans rfl; have hcz62_3 : w60.cell? ⟨gb132, 3, none⟩ = some (.string (⟨#[]⟩ : ByteArray)) := (blk_cell BK132.out 3).trans rfl; have hfz62_0 := blk_frozen BK132.out 0; have hfz62_1 := blk_frozen BK132.out 1; have hfz62_2 := blk_frozen BK132.out 2; have hfz62_3 := blk_frozen BK132.out 3))
                              have n0_ : Aside0 (((((w60.setCell ⟨gb132, 0, none⟩ (.int .i64 ((rd_T60 l0_5 x42_3).f0))).setCell ⟨gb132, 1, none⟩ (.int .i64 ((rd_T60 l0_5 x42_3).f1))).setCell ⟨gb132, 2, none⟩ (.string ((rd_T60 l0_5 x42_3).f2))).setCell ⟨gb132, 3, none⟩ (.string ((rd_T60 l0_5 x42_3).f3))).heap[gb129]? = some (.cells #[.int .i64 a0_0, .int .i64 a0_1, .int .i64 a0_2, .string a0_3, .string a0_4, .slice (some ad131) l0_5.length c0_5, .slice A0_6 l0_6.length c0_6] 63 (0, 0))) := ⟨by (with_reducible repeat (first | refine blk_drewN ?_ _ | refine blk_drew ?_ | refine blk_alloc ?_ _)); refine blk_far ?_ NB129_132.out _; (with_reducible repeat (first | refine blk_drewN ?_ _ | refine blk_drew ?_ | refine blk_alloc ?_ _)); refine blk_far ?_ NB129_132.out _; (with_reducible repeat (first | refine blk_drewN ?_ _ | refine blk_drew ?_ | refine blk_alloc ?_ _)); refine blk_far ?_ NB129_132.out _; (with_reducible repeat (first | refine blk_drewN ?_ _ | refine blk_drew ?_ | refine blk_alloc ?_ _)); refine blk_far ?_ NB129_132.out _; (with_reducible repeat (first | refine blk_drewN ?_ _ | refine blk_drew ?_ | refine blk_alloc ?_ _)); exact BK129.out⟩
                              have n1_ : Aside0 (((((w60.setCell ⟨gb132, 0, none⟩ (.int .i64 ((rd_T60 l0_5 x42_3).f0))).setCell ⟨gb132, 1, none⟩ (.int .i64 ((rd_T60 l0_5 x42_3).f1))).setCell ⟨gb132, 2, none⟩ (.string ((rd_T60 l0_5 x42_3).f2))).setCell ⟨gb132, 3, none⟩ (.string ((rd_T60 l0_5 x42_3).f3))).heap[gb132]? = some (.cells #[.int .i64 ((rd_T60 l0_5 x42_3).f0), .int .i64 ((rd_T60 l0_5 x42_3).f1), .string ((rd_T60 l0_5 x42_3).f2), .string ((rd_T60 l0_5 x42_3).f3)] 60 (0, 0))) := ⟨by (with_reducible repeat (first | refine blk_drewN ?_ _ | refine blk_drew ?_ | refine blk_alloc ?_ _)); refine blk_put (cs := #[.int .i64 ((rd_T60 l0_5 x42_3).f0), .int .i64 ((rd_T60 l0_5 x42_3).f1), .string ((rd_T60 l0_5 x42_3).f2), .string (⟨#[]⟩ : ByteArray)]) ?_ 3 _ rfl; (with_reducible repeat (first | refine blk_drewN ?_ _ | refine blk_drew ?_ | refine blk_alloc ?_ _)); refine blk_put (cs := #[.int .i64 ((rd_T60 l0_5 x42_3).f0), .int .i64 ((rd_T60 l0_5 x42_3).f1), .string (⟨#[]⟩ : ByteArray), .string (⟨#[]⟩ : ByteArray)]) ?_ 2 _ rfl; (with_reducible repeat (first | refine blk_drewN ?_ _ | refine blk_drew ?_ | refine blk_alloc ?_ _)); refine blk_put (cs := #[.int .i64 ((rd_T60 l0_5 x42_3).f0), .int .i64 0, .string (⟨#[]⟩ : ByteArray), .string (⟨#[]⟩ : ByteArray)]) ?_ 1 _ rfl; (with_reducible repeat (first | refine blk_drewN ?_ _ | refine blk_drew ?_ | refine blk_alloc ?_ _)); refine blk_put (cs := #[.int .i64 0, .int .i64 0, .string (⟨#[]⟩ : ByteArray), .string (⟨#[]⟩ : ByteArray)]) ?_ 0 _ rfl; (with_reducible repeat (first | refine blk_drewN ?_ _ | refine blk_drew ?_ | refine blk_alloc ?_ _)); exact BK132.out⟩
                              have n2_ : Aside0 (Below w.heap.size w ((((w60.setCell ⟨gb132, 0, none⟩ (.int .i64 ((rd_T60 l0_5 x42_3).f0))).setCell ⟨gb132, 1, none⟩ (.int .i64 ((rd_T60 l0_5 x42_3).f1))).setCell ⟨gb132, 2, none⟩ (.string ((rd_T60 l0_5 x42_3).f2))).setCell ⟨gb132, 3, none⟩ (.string ((rd_T60 l0_5 x42_3).f3)))) := ⟨by repeat (first | (with_reducible first | exact HB.out | apply below_alloc | apply pw_below_drewN | apply below_drew1 | refine below_set ?_ GE129.out | refine below_set ?_ GE132.out) | exact HB.out)⟩
                              (try clear BK129)
                              (try clear BK132)
                              (try clear HB)
                              generalize ((((w60.setCell ⟨gb132, 0, none⟩ (.int .i64 ((rd_T60 l0_5 x42_3).f0))).setCell ⟨gb132, 1, none⟩ (.int .i64 ((rd_T60 l0_5 x42_3).f1))).setCell ⟨gb132, 2, none⟩ (.string ((rd_T60 l0_5 x42_3).f2))).setCell ⟨gb132, 3, none⟩ (.string ((rd_T60 l0_5 x42_3).f3))) = w63 at n0_ n1_ n2_ ⊢
                              have BK129 := n0_
                              have BK132 := n1_
                              have HB := n2_
                              clear n0_ n1_ n2_
                              have n0_ := Aside0.mk (blk_drew BK129.out)
                              have n1_ := Aside0.mk (blk_drew BK132.out)
                              have n2_ := Aside0.mk (below_drew1 HB.out)
                              clear BK129
                              clear BK132
                              clear HB
                              have BK129 := n0_
                              have BK132 := n1_
                              have HB := n2_
                              clear n0_ n1_ n2_
                              refine start_ (n := 23) (S := fun w' => w'.cell? ⟨gb132, 0, none⟩ = some (.int .i64 ((rd_T60 l0_5 x42_3).f0)) ∧ w'.cell? ⟨gb132, 1, none⟩ = some (.int .i64 ((rd_T60 l0_5 x42_3).f1)) ∧ w'.cell? ⟨gb132, 2, none⟩ = some (.string ((rd_T60 l0_5 x42_3).f2)) ∧ w'.cell? ⟨gb132, 3, none⟩ = some (.string ((rd_T60 l0_5 x42_3).f3)) ∧ w'.cell? ⟨gb129, 0, none⟩ = some (.int .i64 a0_0) ∧ w'.cell? ⟨gb129, 1, none⟩ = some (.int .i64 a0_1) ∧ w'.cell? ⟨gb129, 2, none⟩ = some (.int .i64 a0_2) ∧ w'.cell? ⟨gb129, 3, none⟩ = some (.string a0_3) ∧ w'.cell? ⟨gb129, 4, none⟩ = some (.string a0_4) ∧ w'.cell? ⟨gb129, 5, none⟩ = some (.slice (some ad131) l0_5.length c0_5) ∧ w'.cell? ⟨gb129, 6, none⟩ = some (.slice A0_6 l0_6.length c0_6)) (ds := []) #[false, false, false, false, false, false, false, false, false, false, false, false, false, false, false, false, false, false, false, false, false, false, false] (by kernel_rfl) rfl rfl ⟨(blk_cell BK132.out 0).trans rfl, (blk_cell BK132.out 1).trans rfl, (blk_cell BK132.out 2).trans rfl, (blk_cell BK132.out 3).trans rfl, (blk_cell BK129.out 0).trans rfl, (blk_cell BK129.out 1).trans rfl, (blk_cell BK129.out 2).trans rfl, (blk_cell BK129.out 3).trans rfl, (blk_cell BK129.out 4).trans rfl, (blk_cell BK129.out 5).trans rfl, (blk_cell BK129.out 6).trans rfl⟩ (fun hHeld => ?_); refine with_tabW spec_GoodValue.tab11 spec_GoodValue.bits11 (fun HT_ HW_ => ?_)
                              generalize w63.drew = w64 at BK129 BK132 HB hHeld ⊢
                              refine take_ (i := 0) (N := some 47) (v := ?_) (a' := ?_) #[true, false, false, false, false, false, false, false, false, false, false, false, false, false, false, false, false, false, false, false, false, false, false] rfl rfl (take_ofW HT_.out HW_.out (by kernel_rfl)) (fun _ _ _ h => h) (Or.inl ⟨by rfl, ?_⟩) hHeld ?_ ?_
                              rotate_left
                              · rintro w' ⟨s0, s1, s2, s3, s4, s5, s6, s7, s8, s9, s10⟩
                                go_simp
                                with_reducible rfl
                              rotate_left
                              · simp only [Act.put, List.setIfInBounds_toArray, List.set_cons_zero, List.set_cons_succ, i64_w, i32_w]
                                rfl
                              refine one_ (i := 1) (N := some 48) #[true, true, false, false, false, false, false, false, false, false, false, false, false, false, false, false, false, false, false, false, false, false, false] rfl rfl (one_of HT_.out (by kernel_rfl)) (by decide) (fun K hK => ?_)
                              refine goes_ Try.func73 (by kernel_rfl) rfl #[.agg #[.int .i64 ((rd_T60 l0_5 x42_3).f0), .int .i64 ((rd_T60 l0_5 x42_3).f1), .string ((rd_T60 l0_5 x42_3).f2), .string ((rd_T60 l0_5 x42_3).f3)]] (by rfl) rfl rfl (by (try simp only [List.map_toArray, List.map_cons, List.map_nil]); first | done | rfl | (simp only [List.length_drop, List.length_take]; rfl)) ?_
                              with_reducible refine (spec_GoodAtom.calls k3 ((rd_T60 l0_5 x42_3).f0) ((rd_T60 l0_5 x42_3).f1) ((rd_T60 l0_5 x42_3).f2) ((rd_T60 l0_5 x42_3).f3) true _ A31.out).mono ?_
                              rintro e w65 ⟨rfl, hb⟩
                              refine ⟨_, rfl, ?_⟩
                              have n0_ := Aside0.mk (blk_below (g := gb129) (o := .cells #[.int .i64 a0_0, .int .i64 a0_1, .int .i64 a0_2, .string a0_3, .string a0_4, .slice (some ad131) l0_5.length c0_5, .slice A0_6 l0_6.length c0_6] 63 (0, 0)) (by (with_reducible repeat (first | refine blk_drewN ?_ _ | refine blk_drew ?_ | refine blk_alloc ?_ _)); exact BK129.out) hb)
                              have n1_ := Aside0.mk (blk_below (g := gb132) (o := .cells #[.int .i64 ((rd_T60 l0_5 x42_3).f0), .int .i64 ((rd_T60 l0_5 x42_3).f1), .string ((rd_T60 l0_5 x42_3).f2), .string ((rd_T60 l0_5 x42_3).f3)] 60 (0, 0)) (by (with_reducible repeat (first | refine blk_drewN ?_ _ | refine blk_drew ?_ | refine blk_alloc ?_ _)); exact BK132.out) hb)
                              have n2_ := Aside0.mk (below_step (by repeat (first | (with_reducible first | exact HB.out | apply below_alloc | apply pw_below_drewN | apply below_drew1 | refine below_set ?_ GE129.out | refine below_set ?_ GE132.out) | exact HB.out)) hb)
                              clear BK129
                              clear BK132
                              clear HB
                              have BK129 := n0_
                              have BK132 := n1_
                              have HB := n2_
                              clear n0_ n1_ n2_
                              (try clear hb)
                              (try clear hb2)
                              (try clear hk)
                              (try clear hi)
                              refine hK.out _ _ ⟨(blk_cell BK132.out 0).trans rfl, (blk_cell BK132.out 1).trans rfl, (blk_cell BK132.out 2).trans rfl, (blk_cell BK132.out 3).trans rfl, (blk_cell BK129.out 0).trans rfl, (blk_cell BK129.out 1).trans rfl, (blk_cell BK129.out 2).trans rfl, (blk_cell BK129.out 3).trans rfl, (blk_cell BK129.out 4).trans rfl, (blk_cell BK129.out 5).trans rfl, (blk_cell BK129.out 6).trans rfl⟩ (fun hHeld => ?_)
                              clear hK K
                              refine norm_ (a' := ?_) ?_ ?_
                              rotate_left
                              · show Act.put _ (some 48) _ = _
                                simp only [Act.put, List.setIfInBounds_toArray, List.set_cons_zero, List.set_cons_succ, i64_w, i32_w]
                                rfl
                              refine pure_ (i := 2) (N := some 49) (v := ?_) (a' := ?_) #[true, true, true, false, false, false, false, false, false, false, false, false, false, false, false, false, false, false, false, false, false, false, false] rfl rfl (any_of HT_.out (by kernel_rfl)) (fun _ _ _ h => h) (Or.inl ⟨by rfl, ?_⟩) ?_ ?_
                              rotate_left
                              · intro w'
                                go_simp
                                with_reducible rfl
                              rotate_left
                              · simp only [Act.put, List.setIfInBounds_toArray, List.set_cons_zero, List.set_cons_succ, i64_w, i32_w]
                                rfl
                              refine pure_ (i := 3) (N := some 50) (v := ?_) (a' := ?_) #[true, true, true, true, false, false, false, false, false, false, false, false, false, false, false, false, false, false, false, false, false, false, false] rfl rfl (any_of HT_.out (by kernel_rfl)) (fun _ _ _ h => h) (Or.inl ⟨by rfl, ?_⟩) ?_ ?_
                              rotate_left
                              · intro w'
                                go_simp
                                with_reducible rfl
                              rotate_left
                              · simp only [Act.put, List.setIfInBounds_toArray, List.set_cons_zero, List.set_cons_succ, i64_w, i32_w]
                                rfl
                              refine pure_ (i := 4) (N := some 51) (v := ?_) (a' := ?_) #[true, true, true, true, true, false, false, false, false, false, false, false, false, false, false, false, false, false, false, false, false, false, false] rfl rfl (any_of HT_.out (by kernel_rfl)) (fun _ _ _ h => h) (Or.inl ⟨by rfl, ?_⟩) ?_ ?_
                              rotate_left
                              · intro w'
                                go_simp
                                with_reducible rfl
                              rotate_left
                              · simp only [Act.put, List.setIfInBounds_toArray, List.set_cons_zero, List.set_cons_succ, i64_w, i32_w]
                                rfl
                              refine take_ (i := 5) (N := some 52) (v := ?_) (a' := ?_) #[true, true, true, true, true, true, false, false, false, false, false, false, false, false, false, false, false, false, false, false, false, false, false] rfl rfl (take_ofW HT_.out HW_.out (by kernel_rfl)) (fun _ _ _ h => h) (Or.inl ⟨by rfl, ?_⟩) hHeld ?_ ?_
                              rotate_left
                              · rintro w' ⟨s0, s1, s2, s3, s4, s5, s6, s7, s8, s9, s10⟩
                                go_simp
                                with_reducible rfl
                              rotate_left
                              · simp only [Act.put, List.setIfInBounds_toArray, List.set_cons_zero, List.set_cons_succ, i64_w, i32_w]
                                rfl
                              refine pure_ (i := 6) (N := some 53) (v := ?_) (a' := ?_) #[true, true, true, true, true, true, true, false, false, false, false, false, false, false, false, false, false, false, false, false, false, false, false] rfl rfl (any_of HT_.out (by kernel_rfl)) (fun _ _ _ h => h) (Or.inl ⟨by rfl, ?_⟩) ?_ ?_
                              rotate_left
                              · intro w'
                                go_simp
                                with_reducible rfl
                              rotate_left
                              · simp only [Act.put, List.setIfInBounds_toArray, List.set_cons_zero, List.set_cons_succ, i64_w, i32_w]
                                rfl
                              refine pure_ (i := 7) (N := some 54) (v := ?_) (a' := ?_) #[true, true, true, true, true, true, true, true, false, false, false, false, false, false, false, false, false, false, false, false, false, false, false] rfl rfl (any_of HT_.out (by kernel_rfl)) (fun _ _ _ h => h) (Or.inl ⟨by rfl, ?_⟩) ?_ ?_
                              rotate_left
                              · intro w'
                                go_simp
                                with_reducible rfl
                              rotate_left
                              · simp only [Act.put, List.setIfInBounds_toArray, List.set_cons_zero, List.set_cons_succ, i64_w, i32_w]
                                rfl
                              refine pure_ (i := 8) (N := some 55) (v := undef) (a' := ?_) #[true, true, true, true, true, true, true, true, true, false, false, false, false, false, false, false, false, false, false, false, false, false, false] rfl rfl (any_of HT_.out (by kernel_rfl)) (fun _ _ _ h => h) (Or.inr ⟨by rfl, rfl⟩) ?_ ?_
                              rotate_left
                              · simp only [Act.put, List.setIfInBounds_toArray, List.set_cons_zero, List.set_cons_succ, i64_w, i32_w]
                                rfl
                              refine pure_ (i := 9) (N := some 56) (v := undef) (a' := ?_) #[true, true, true, true, true, true, true, true, true, true, false, false, false, false, false, false, false, false, false, false, false, false, false] rfl rfl (any_of HT_.out (by kernel_rfl)) (fun _ _ _ h => h) (Or.inr ⟨by rfl, rfl⟩) ?_ ?_
                              rotate_left
                              · simp only [Act.put, List.setIfInBounds_toArray, List.set_cons_zero, List.set_cons_succ, i64_w, i32_w]
                                rfl
                              refine pure_ (i := 10) (N := some 57) (v := ?_) (a' := ?_) #[true, true, true, true, true, true, true, true, true, true, true, false, false, false, false, false, false, false, false, false, false, false, false] rfl rfl (any_of HT_.out (by kernel_rfl)) (fun _ _ _ h => h) (Or.inl ⟨by rfl, ?_⟩) ?_ ?_
                              rotate_left
                              · intro w'
                                go_simp
                                with_reducible rfl
                              rotate_left
                              · simp only [Act.put, List.setIfInBounds_toArray, List.set_cons_zero, List.set_cons_succ, i64_w, i32_w]
                                rfl
                              refine pure_ (i := 11) (N := some 58) (v := ?_) (a' := ?_) #[true, true, true, true, true, true, true, true, true, true, true, true, false, false, false, false, false, false, false, false, false, false, false] rfl rfl (any_of HT_.out (by kernel_rfl)) (fun _ _ _ h => h) (Or.inl ⟨by rfl, ?_⟩) ?_ ?_
                              rotate_left
                              · intro w'
                                go_simp
                                with_reducible rfl
                              rotate_left
                              · simp only [Act.put, List.setIfInBounds_toArray, List.set_cons_zero, List.set_cons_succ, i64_w, i32_w]
                                rfl
                              refine pure_ (i := 12) (N := some 59) (v := undef) (a' := ?_) #[true, true, true, true, true, true, true, true, true, true, true, true, true, false, false, false, false, false, false, false, false, false, false] rfl rfl (any_of HT_.out (by kernel_rfl)) (fun _ _ _ h => h) (Or.inr ⟨by rfl, rfl⟩) ?_ ?_
                              rotate_left
                              · simp only [Act.put, List.setIfInBounds_toArray, List.set_cons_zero, List.set_cons_succ, i64_w, i32_w]
                                rfl
                              refine pure_ (i := 13) (N := some 60) (v := undef) (a' := ?_) #[true, true, true, true, true, true, true, true, true, true, true, true, true, true, false, false, false, false, false, false, false, false, false] rfl rfl (any_of HT_.out (by kernel_rfl)) (fun _ _ _ h => h) (Or.inr ⟨by rfl, rfl⟩) ?_ ?_
                              rotate_left
                              · simp only [Act.put, List.setIfInBounds_toArray, List.set_cons_zero, List.set_cons_succ, i64_w, i32_w]
                                rfl
                              refine pure_ (i := 14) (N := some 61) (v := undef) (a' := ?_) #[true, true, true, true, true, true, true, true, true, true, true, true, true, true, true, false, false, false, false, false, false, false, false] rfl rfl (any_of HT_.out (by kernel_rfl)) (fun _ _ _ h => h) (Or.inr ⟨by rfl, rfl⟩) ?_ ?_
                              rotate_left
                              · simp only [Act.put, List.setIfInBounds_toArray, List.set_cons_zero, List.set_cons_succ, i64_w, i32_w]
                                rfl
                              refine pure_ (i := 15) (N := some 62) (v := undef) (a' := ?_) #[true, true, true, true, true, true, true, true, true, true, true, true, true, true, true, true, false, false, false, false, false, false, false] rfl rfl (any_of HT_.out (by kernel_rfl)) (fun _ _ _ h => h) (Or.inr ⟨by rfl, rfl⟩) ?_ ?_
                              rotate_left
                              · simp only [Act.put, List.setIfInBounds_toArray, List.set_cons_zero, List.set_cons_succ, i64_w, i32_w]
                                rfl
                              refine pure_ (i := 16) (N := some 63) (v := undef) (a' := ?_) #[true, true, true, true, true, true, true, true, true, true, true, true, true, true, true, true, true, false, false, false, false, false, false] rfl rfl (any_of HT_.out (by kernel_rfl)) (fun _ _ _ h => h) (Or.inr ⟨by rfl, rfl⟩) ?_ ?_
                              rotate_left
                              · simp only [Act.put, List.setIfInBounds_toArray, List.set_cons_zero, List.set_cons_succ, i64_w, i32_w]
                                rfl
                              refine pure_ (i := 17) (N := some 64) (v := undef) (a' := ?_) #[true, true, true, true, true, true, true, true, true, true, true, true, true, true, true, true, true, true, false, false, false, false, false] rfl rfl (any_of HT_.out (by kernel_rfl)) (fun _ _ _ h => h) (Or.inr ⟨by rfl, rfl⟩) ?_ ?_
                              rotate_left
                              · simp only [Act.put, List.setIfInBounds_toArray, List.set_cons_zero, List.set_cons_succ, i64_w, i32_w]
                                rfl
                              refine pure_ (i := 18) (N := some 65) (v := undef) (a' := ?_) #[true, true, true, true, true, true, true, true, true, true, true, true, true, true, true, true, true, true, true, false, false, false, false] rfl rfl (any_of HT_.out (by kernel_rfl)) (fun _ _ _ h => h) (Or.inr ⟨by rfl, rfl⟩) ?_ ?_
                              rotate_left
                              · simp only [Act.put, List.setIfInBounds_toArray, List.set_cons_zero, List.set_cons_succ, i64_w, i32_w]
                                rfl
                              refine pure_ (i := 19) (N := some 66) (v := undef) (a' := ?_) #[true, true, true, true, true, true, true, true, true, true, true, true, true, true, true, true, true, true, true, true, false, false, false] rfl rfl (any_of HT_.out (by kernel_rfl)) (fun _ _ _ h => h) (Or.inr ⟨by rfl, rfl⟩) ?_ ?_
                              rotate_left
                              · simp only [Act.put, List.setIfInBounds_toArray, List.set_cons_zero, List.set_cons_succ, i64_w, i32_w]
                                rfl
                              refine pure_ (i := 20) (N := some 67) (v := undef) (a' := ?_) #[true, true, true, true, true, true, true, true, true, true, true, true, true, true, true, true, true, true, true, true, true, false, false] rfl rfl (any_of HT_.out (by kernel_rfl)) (fun _ _ _ h => h) (Or.inr ⟨by rfl, rfl⟩) ?_ ?_
                              rotate_left
                              · simp only [Act.put, List.setIfInBounds_toArray, List.set_cons_zero, List.set_cons_succ, i64_w, i32_w]
                                rfl
                              refine pure_ (i := 21) (N := some 68) (v := ?_) (a' := ?_) #[true, true, true, true, true, true, true, true, true, true, true, true, true, true, true, true, true, true, true, true, true, true, false] rfl rfl (any_of HT_.out (by kernel_rfl)) (fun _ _ _ h => h) (Or.inl ⟨by rfl, ?_⟩) ?_ ?_
                              rotate_left
                              · intro w'
                                go_simp
                                with_reducible rfl
                              rotate_left
                              · simp only [Act.put, List.setIfInBounds_toArray, List.set_cons_zero, List.set_cons_succ, i64_w, i32_w]
                                rfl
                              refine pure_ (i := 22) (N := some 69) (v := ?_) (a' := ?_) #[true, true, true, true, true, true, true, true, true, true, true, true, true, true, true, true, true, true, true, true, true, true, true] rfl rfl (any_of HT_.out (by kernel_rfl)) (fun _ _ _ h => h) (Or.inl ⟨by rfl, ?_⟩) ?_ ?_
                              rotate_left
                              · intro w'
                                go_simp
                                with_reducible rfl
                              rotate_left
                              · simp only [Act.put, List.setIfInBounds_toArray, List.set_cons_zero, List.set_cons_succ, i64_w, i32_w]
                                rfl
                              refine done_ (done_of HT_.out (by kernel_rfl)) ?_
                              try go_wp2
                              go_roundg k3
                              case measure => have := HJ16.out; have := HJ21.out; have := HK3.out; omega
                              case rel => exact ⟨(wrap64 (x42_3 + 1)), (by first | rfl | (simp; done) | (simp [pw_ne_nil, pw_eq_nil]; done) | (simp [*]; done)), H', ⟨by have := HJ16.out; have := HJ21.out; have := HK3.out; omega⟩, ⟨by (with_reducible repeat (first | refine blk_drewN ?_ _ | refine blk_drew ?_ | refine blk_alloc ?_ _)); exact BK129.out⟩, ⟨by repeat (first | (with_reducible first | exact HB.out | apply below_alloc | apply pw_below_drewN | apply below_drew1 | refine below_set ?_ GE129.out | refine below_set ?_ GE132.out) | exact HB.out)⟩⟩
                          · replace c32 := Bool.eq_false_iff.mpr c32
                            subst c32
                            have H1 : (some false) = some r := by rw [if_neg (show ¬ (false = true) by decide)] at H; exact H
                            clear H
                            have H := H1
                            clear H1
                            obtain rfl := Option.some.inj H
                            have p131 : 0 ≤ (x42_3 : Int) := of_decide_eq_true (by first | (with_reducible assumption) | assumption)
                            have q131 : x42_3 < (l0_5.length : Int) := of_decide_eq_true (by first | (with_reducible assumption) | assumption)
                            obtain ⟨ad131, e131, hx131_0, hx131_1, hx131_2, hx131_3⟩ := at_T60 HR0_5.out x42_3 p131 q131
                            cases e131
                            replace hx131_0 := (HB.out.cell (World.block_lt_of_cell? w _ hx131_0)).trans hx131_0
                            replace hx131_1 := (HB.out.cell (World.block_lt_of_cell? w _ hx131_1)).trans hx131_1
                            replace hx131_2 := (HB.out.cell (World.block_lt_of_cell? w _ hx131_2)).trans hx131_2
                            replace hx131_3 := (HB.out.cell (World.block_lt_of_cell? w _ hx131_3)).trans hx131_3
                            replace p131 := eq_true p131
                            replace q131 := eq_true q131
                            try go_wp2_with (first | ((with_reducible refine gate_dst (N := 4) rfl ?_); (try (refine gate_guard (by rfl) ?_; dsimp only)); refine box_event ?hg (N := 4) ?hd (cs := #[.int .i64 0, .int .i64 0, .string (⟨#[]⟩ : ByteArray), .string (⟨#[]⟩ : ByteArray)]) (t := 60) ?hr ?_; (case hd => rfl); (case hg => rfl); (case hr => first | (go_simp; done) | (go_simp; rfl)); intro gb132 hg w66 hbox hb; have n0_ := Aside0.mk (blk_below (g := gb129) (o := .cells #[.int .i64 a0_0, .int .i64 a0_1, .int .i64 a0_2, .string a0_3, .string a0_4, .slice (some ad131) l0_5.length c0_5, .slice A0_6 l0_6.length c0_6] 63 (0, 0)) (by (with_reducible repeat (first | refine blk_drewN ?_ _ | refine blk_drew ?_ | refine blk_alloc ?_ _)); exact BK129.out) hb); have n1_ := Aside0.mk (below_step (by repeat (first | (with_reducible first | exact HB.out | apply below_alloc | apply pw_below_drewN | apply below_drew1 | refine below_set ?_ GE129.out) | exact HB.out)) hb); have n2_ := Aside0.mk (hbox); have n3_ := Aside0.mk ((by rw [hg]; exact (below_size (by repeat (first | (with_reducible first | exact HB.out | apply below_alloc | apply pw_below_drewN | apply below_drew1 | refine below_set ?_ GE129.out) | exact HB.out))) : w.heap.size ≤ gb132)); have n4_ := Aside0.mk ((by rw [hg]; exact (below_size (by repeat (first | (with_reducible first | exact HB.out | apply below_alloc | apply pw_below_drewN | apply below_drew1 | refine below_set ?_ GE129.out) | exact HB.out))) : w.heap.size ≤ gb132)); have n5_ := Aside0.mk ((by rw [hg]; exact Nat.ne_of_lt (blk_lt (g := gb129) (o := .cells #[.int .i64 a0_0, .int .i64 a0_1, .int .i64 a0_2, .string a0_3, .string a0_4, .slice (some ad131) l0_5.length c0_5, .slice A0_6 l0_6.length c0_6] 63 (0, 0)) (by (with_reducible repeat (first | refine blk_drewN ?_ _ | refine blk_drew ?_ | refine blk_alloc ?_ _)); exact BK129.out)) : gb129 ≠ gb132)); have n6_ := Aside0.mk ((by rw [hg]; exact Nat.ne_of_gt (blk_lt (g := gb129) (o := .cells #[.int .i64 a0_0, .int .i64 a0_1, .int .i64 a0_2, .string a0_3, .string a0_4, .slice (some ad131) l0_5.length c0_5, .slice A0_6 l0_6.length c0_6] 63 (0, 0)) (by (with_reducible repeat (first | refine blk_drewN ?_ _ | refine blk_drew ?_ | refine blk_alloc ?_ _)); exact BK129.out)) : gb132 ≠ gb129)); clear BK129; clear HB; have BK129 := n0_; have HB := n1_; have BK132 := n2_; have GW132 := n3_; have GE132 := n4_; have NB129_132 := n5_; have NB132_129 := n6_; clear n0_ n1_ n2_ n3_ n4_ n5_ n6_; clear hb hbox hg; have hnb67 := NB132_129.out; have hnc67 := NB129_132.out; have hcz68_0 : w66.cell? ⟨gb132, 0, none⟩ = some (.int .i64 0) := (blk_cell BK132.out 0).trans rfl; have hcz68_1 : w66.cell? ⟨gb132, 1, none⟩ = some (.int .i64 0) := (blk_cell BK132.out 1).trans rfl; have hcz68_2 : w66.cell? ⟨gb132, 2, none⟩ = some (.string (⟨#[]⟩ : ByteArray)) := (blk_cell BK132.out 2).trans rfl; have hcz68_3 : w66.cell? ⟨gb132, 3, none⟩ = some (.string (⟨#[]⟩ : ByteArray)) := (blk_cell BK132.out 3).trans rfl; have hfz68_0 := blk_frozen BK132.out 0; have hfz68_1 := blk_frozen BK132.out 1; have hfz68_2 := blk_frozen BK132.out 2; have hfz68_3 := blk_frozen BK132.out 3))
                            have n0_ : Aside0 (((((w66.setCell ⟨gb132, 0, none⟩ (.int .i64 ((rd_T60 l0_5 x42_3).f0))).setCell ⟨gb132, 1, none⟩ (.int .i64 ((rd_T60 l0_5 x42_3).f1))).setCell ⟨gb132, 2, none⟩ (.string ((rd_T60 l0_5 x42_3).f2))).setCell ⟨gb132, 3, none⟩ (.string ((rd_T60 l0_5 x42_3).f3))).heap[gb129]? = some (.cells #[.int .i64 a0_0, .int .i64 a0_1, .int .i64 a0_2, .string a0_3, .string a0_4, .slice (some ad131) l0_5.length c0_5, .slice A0_6 l0_6.length c0_6] 63 (0, 0))) := ⟨by (with_reducible repeat (first | refine blk_drewN ?_ _ | refine blk_drew ?_ | refine blk_alloc ?_ _)); refine blk_far ?_ NB129_132.out _; (with_reducible repeat (first | refine blk_drewN ?_ _ | refine blk_drew ?_ | refine blk_alloc ?_ _)); refine blk_far ?_ NB129_132.out _; (with_reducible repeat (first | refine blk_drewN ?_ _ | refine blk_drew ?_ | refine blk_alloc ?_ _)); refine blk_far ?_ NB129_132.out _; (with_reducible repeat (first | refine blk_drewN ?_ _ | refine blk_drew ?_ | refine blk_alloc ?_ _)); refine blk_far ?_ NB129_132.out _; (with_reducible repeat (first | refine blk_drewN ?_ _ | refine blk_drew ?_ | refine blk_alloc ?_ _)); exact BK129.out⟩
                            have n1_ : Aside0 (((((w66.setCell ⟨gb132, 0, none⟩ (.int .i64 ((rd_T60 l0_5 x42_3).f0))).setCell ⟨gb132, 1, none⟩ (.int .i64 ((rd_T60 l0_5 x42_3).f1))).setCell ⟨gb132, 2, none⟩ (.string ((rd_T60 l0_5 x42_3).f2))).setCell ⟨gb132, 3, none⟩ (.string ((rd_T60 l0_5 x42_3).f3))).heap[gb132]? = some (.cells #[.int .i64 ((rd_T60 l0_5 x42_3).f0), .int .i64 ((rd_T60 l0_5 x42_3).f1), .string ((rd_T60 l0_5 x42_3).f2), .string ((rd_T60 l0_5 x42_3).f3)] 60 (0, 0))) := ⟨by (with_reducible repeat (first | refine blk_drewN ?_ _ | refine blk_drew ?_ | refine blk_alloc ?_ _)); refine blk_put (cs := #[.int .i64 ((rd_T60 l0_5 x42_3).f0), .int .i64 ((rd_T60 l0_5 x42_3).f1), .string ((rd_T60 l0_5 x42_3).f2), .string (⟨#[]⟩ : ByteArray)]) ?_ 3 _ rfl; (with_reducible repeat (first | refine blk_drewN ?_ _ | refine blk_drew ?_ | refine blk_alloc ?_ _)); refine blk_put (cs := #[.int .i64 ((rd_T60 l0_5 x42_3).f0), .int .i64 ((rd_T60 l0_5 x42_3).f1), .string (⟨#[]⟩ : ByteArray), .string (⟨#[]⟩ : ByteArray)]) ?_ 2 _ rfl; (with_reducible repeat (first | refine blk_drewN ?_ _ | refine blk_drew ?_ | refine blk_alloc ?_ _)); refine blk_put (cs := #[.int .i64 ((rd_T60 l0_5 x42_3).f0), .int .i64 0, .string (⟨#[]⟩ : ByteArray), .string (⟨#[]⟩ : ByteArray)]) ?_ 1 _ rfl; (with_reducible repeat (first | refine blk_drewN ?_ _ | refine blk_drew ?_ | refine blk_alloc ?_ _)); refine blk_put (cs := #[.int .i64 0, .int .i64 0, .string (⟨#[]⟩ : ByteArray), .string (⟨#[]⟩ : ByteArray)]) ?_ 0 _ rfl; (with_reducible repeat (first | refine blk_drewN ?_ _ | refine blk_drew ?_ | refine blk_alloc ?_ _)); exact BK132.out⟩
                            have n2_ : Aside0 (Below w.heap.size w ((((w66.setCell ⟨gb132, 0, none⟩ (.int .i64 ((rd_T60 l0_5 x42_3).f0))).setCell ⟨gb132, 1, none⟩ (.int .i64 ((rd_T60 l0_5 x42_3).f1))).setCell ⟨gb132, 2, none⟩ (.string ((rd_T60 l0_5 x42_3).f2))).setCell ⟨gb132, 3, none⟩ (.string ((rd_T60 l0_5 x42_3).f3)))) := ⟨by repeat (first | (with_reducible first | exact HB.out | apply below_alloc | apply pw_below_drewN | apply below_drew1 | refine below_set ?_ GE129.out | refine below_set ?_ GE132.out) | exact HB.out)⟩
                            (try clear BK129)
                            (try clear BK132)
                            (try clear HB)
                            generalize ((((w66.setCell ⟨gb132, 0, none⟩ (.int .i64 ((rd_T60 l0_5 x42_3).f0))).setCell ⟨gb132, 1, none⟩ (.int .i64 ((rd_T60 l0_5 x42_3).f1))).setCell ⟨gb132, 2, none⟩ (.string ((rd_T60 l0_5 x42_3).f2))).setCell ⟨gb132, 3, none⟩ (.string ((rd_T60 l0_5 x42_3).f3))) = w69 at n0_ n1_ n2_ ⊢
                            have BK129 := n0_
                            have BK132 := n1_
                            have HB := n2_
                            clear n0_ n1_ n2_
                            have n0_ := Aside0.mk (blk_drew BK129.out)
                            have n1_ := Aside0.mk (blk_drew BK132.out)
                            have n2_ := Aside0.mk (below_drew1 HB.out)
                            clear BK129
                            clear BK132
                            clear HB
                            have BK129 := n0_
                            have BK132 := n1_
                            have HB := n2_
                            clear n0_ n1_ n2_
                            refine start_ (n := 23) (S := fun w' => w'.cell? ⟨gb132, 0, none⟩ = some (.int .i64 ((rd_T60 l0_5 x42_3).f0)) ∧ w'.cell? ⟨gb132, 1, none⟩ = some (.int .i64 ((rd_T60 l0_5 x42_3).f1)) ∧ w'.cell? ⟨gb132, 2, none⟩ = some (.string ((rd_T60 l0_5 x42_3).f2)) ∧ w'.cell? ⟨gb132, 3, none⟩ = some (.string ((rd_T60 l0_5 x42_3).f3))) (ds := []) #[false, false, false, false, false, false, false, false, false, false, false, false, false, false, false, false, false, false, false, false, false, false, false] (by kernel_rfl) rfl rfl ⟨(blk_cell BK132.out 0).trans rfl, (blk_cell BK132.out 1).trans rfl, (blk_cell BK132.out 2).trans rfl, (blk_cell BK132.out 3).trans rfl⟩ (fun hHeld => ?_); refine with_tabW spec_GoodValue.tab11 spec_GoodValue.bits11 (fun HT_ HW_ => ?_)
                            generalize w69.drew = w70 at BK129 BK132 HB hHeld ⊢
                            refine take_ (i := 0) (N := some 47) (v := ?_) (a' := ?_) #[true, false, false, false, false, false, false, false, false, false, false, false, false, false, false, false, false, false, false, false, false, false, false] rfl rfl (take_ofW HT_.out HW_.out (by kernel_rfl)) (fun _ _ _ h => h) (Or.inl ⟨by rfl, ?_⟩) hHeld ?_ ?_
                            rotate_left
                            · rintro w' ⟨s0, s1, s2, s3⟩
                              go_simp
                              with_reducible rfl
                            rotate_left
                            · simp only [Act.put, List.setIfInBounds_toArray, List.set_cons_zero, List.set_cons_succ, i64_w, i32_w]
                              rfl
                            refine one_ (i := 1) (N := some 48) #[true, true, false, false, false, false, false, false, false, false, false, false, false, false, false, false, false, false, false, false, false, false, false] rfl rfl (one_of HT_.out (by kernel_rfl)) (by decide) (fun K hK => ?_)
                            refine goes_ Try.func73 (by kernel_rfl) rfl #[.agg #[.int .i64 ((rd_T60 l0_5 x42_3).f0), .int .i64 ((rd_T60 l0_5 x42_3).f1), .string ((rd_T60 l0_5 x42_3).f2), .string ((rd_T60 l0_5 x42_3).f3)]] (by rfl) rfl rfl (by (try simp only [List.map_toArray, List.map_cons, List.map_nil]); first | done | rfl | (simp only [List.length_drop, List.length_take]; rfl)) ?_
                            with_reducible refine (spec_GoodAtom.calls k3 ((rd_T60 l0_5 x42_3).f0) ((rd_T60 l0_5 x42_3).f1) ((rd_T60 l0_5 x42_3).f2) ((rd_T60 l0_5 x42_3).f3) false _ A31.out).mono ?_
                            rintro e w71 ⟨rfl, hb⟩
                            refine ⟨_, rfl, ?_⟩
                            have n0_ := Aside0.mk (blk_below (g := gb129) (o := .cells #[.int .i64 a0_0, .int .i64 a0_1, .int .i64 a0_2, .string a0_3, .string a0_4, .slice (some ad131) l0_5.length c0_5, .slice A0_6 l0_6.length c0_6] 63 (0, 0)) (by (with_reducible repeat (first | refine blk_drewN ?_ _ | refine blk_drew ?_ | refine blk_alloc ?_ _)); exact BK129.out) hb)
                            have n1_ := Aside0.mk (blk_below (g := gb132) (o := .cells #[.int .i64 ((rd_T60 l0_5 x42_3).f0), .int .i64 ((rd_T60 l0_5 x42_3).f1), .string ((rd_T60 l0_5 x42_3).f2), .string ((rd_T60 l0_5 x42_3).f3)] 60 (0, 0)) (by (with_reducible repeat (first | refine blk_drewN ?_ _ | refine blk_drew ?_ | refine blk_alloc ?_ _)); exact BK132.out) hb)
                            have n2_ := Aside0.mk (below_step (by repeat (first | (with_reducible first | exact HB.out | apply below_alloc | apply pw_below_drewN | apply below_drew1 | refine below_set ?_ GE129.out | refine below_set ?_ GE132.out) | exact HB.out)) hb)
                            clear BK129
                            clear BK132
                            clear HB
                            have BK129 := n0_
                            have BK132 := n1_
                            have HB := n2_
                            clear n0_ n1_ n2_
                            (try clear hb)
                            (try clear hb2)
                            (try clear hk)
                            (try clear hi)
                            refine hK.out _ _ ⟨(blk_cell BK132.out 0).trans rfl, (blk_cell BK132.out 1).trans rfl, (blk_cell BK132.out 2).trans rfl, (blk_cell BK132.out 3).trans rfl⟩ (fun hHeld => ?_)
                            clear hK K
                            refine norm_ (a' := ?_) ?_ ?_
                            rotate_left
                            · show Act.put _ (some 48) _ = _
                              simp only [Act.put, List.setIfInBounds_toArray, List.set_cons_zero, List.set_cons_succ, i64_w, i32_w]
                              rfl
                            refine pure_ (i := 2) (N := some 49) (v := ?_) (a' := ?_) #[true, true, true, false, false, false, false, false, false, false, false, false, false, false, false, false, false, false, false, false, false, false, false] rfl rfl (any_of HT_.out (by kernel_rfl)) (fun _ _ _ h => h) (Or.inl ⟨by rfl, ?_⟩) ?_ ?_
                            rotate_left
                            · intro w'
                              go_simp
                              with_reducible rfl
                            rotate_left
                            · simp only [Act.put, List.setIfInBounds_toArray, List.set_cons_zero, List.set_cons_succ, i64_w, i32_w]
                              rfl
                            refine pure_ (i := 3) (N := some 50) (v := ?_) (a' := ?_) #[true, true, true, true, false, false, false, false, false, false, false, false, false, false, false, false, false, false, false, false, false, false, false] rfl rfl (any_of HT_.out (by kernel_rfl)) (fun _ _ _ h => h) (Or.inl ⟨by rfl, ?_⟩) ?_ ?_
                            rotate_left
                            · intro w'
                              go_simp
                              with_reducible rfl
                            rotate_left
                            · simp only [Act.put, List.setIfInBounds_toArray, List.set_cons_zero, List.set_cons_succ, i64_w, i32_w]
                              rfl
                            refine pure_ (i := 4) (N := some 51) (v := undef) (a' := ?_) #[true, true, true, true, true, false, false, false, false, false, false, false, false, false, false, false, false, false, false, false, false, false, false] rfl rfl (any_of HT_.out (by kernel_rfl)) (fun _ _ _ h => h) (Or.inr ⟨by rfl, rfl⟩) ?_ ?_
                            rotate_left
                            · simp only [Act.put, List.setIfInBounds_toArray, List.set_cons_zero, List.set_cons_succ, i64_w, i32_w]
                              rfl
                            refine pure_ (i := 5) (N := some 52) (v := undef) (a' := ?_) #[true, true, true, true, true, true, false, false, false, false, false, false, false, false, false, false, false, false, false, false, false, false, false] rfl rfl (any_of HT_.out (by kernel_rfl)) (fun _ _ _ h => h) (Or.inr ⟨by rfl, rfl⟩) ?_ ?_
                            rotate_left
                            · simp only [Act.put, List.setIfInBounds_toArray, List.set_cons_zero, List.set_cons_succ, i64_w, i32_w]
                              rfl
                            refine pure_ (i := 6) (N := some 53) (v := undef) (a' := ?_) #[true, true, true, true, true, true, true, false, false, false, false, false, false, false, false, false, false, false, false, false, false, false, false] rfl rfl (any_of HT_.out (by kernel_rfl)) (fun _ _ _ h => h) (Or.inr ⟨by rfl, rfl⟩) ?_ ?_
                            rotate_left
                            · simp only [Act.put, List.setIfInBounds_toArray, List.set_cons_zero, List.set_cons_succ, i64_w, i32_w]
                              rfl
                            refine pure_ (i := 7) (N := some 54) (v := undef) (a' := ?_) #[true, true, true, true, true, true, true, true, false, false, false, false, false, false, false, false, false, false, false, false, false, false, false] rfl rfl (any_of HT_.out (by kernel_rfl)) (fun _ _ _ h => h) (Or.inr ⟨by rfl, rfl⟩) ?_ ?_
                            rotate_left
                            · simp only [Act.put, List.setIfInBounds_toArray, List.set_cons_zero, List.set_cons_succ, i64_w, i32_w]
                              rfl
                            refine pure_ (i := 8) (N := some 55) (v := undef) (a' := ?_) #[true, true, true, true, true, true, true, true, true, false, false, false, false, false, false, false, false, false, false, false, false, false, false] rfl rfl (any_of HT_.out (by kernel_rfl)) (fun _ _ _ h => h) (Or.inr ⟨by rfl, rfl⟩) ?_ ?_
                            rotate_left
                            · simp only [Act.put, List.setIfInBounds_toArray, List.set_cons_zero, List.set_cons_succ, i64_w, i32_w]
                              rfl
                            refine pure_ (i := 9) (N := some 56) (v := undef) (a' := ?_) #[true, true, true, true, true, true, true, true, true, true, false, false, false, false, false, false, false, false, false, false, false, false, false] rfl rfl (any_of HT_.out (by kernel_rfl)) (fun _ _ _ h => h) (Or.inr ⟨by rfl, rfl⟩) ?_ ?_
                            rotate_left
                            · simp only [Act.put, List.setIfInBounds_toArray, List.set_cons_zero, List.set_cons_succ, i64_w, i32_w]
                              rfl
                            refine pure_ (i := 10) (N := some 57) (v := undef) (a' := ?_) #[true, true, true, true, true, true, true, true, true, true, true, false, false, false, false, false, false, false, false, false, false, false, false] rfl rfl (any_of HT_.out (by kernel_rfl)) (fun _ _ _ h => h) (Or.inr ⟨by rfl, rfl⟩) ?_ ?_
                            rotate_left
                            · simp only [Act.put, List.setIfInBounds_toArray, List.set_cons_zero, List.set_cons_succ, i64_w, i32_w]
                              rfl
                            refine pure_ (i := 11) (N := some 58) (v := undef) (a' := ?_) #[true, true, true, true, true, true, true, true, true, true, true, true, false, false, false, false, false, false, false, false, false, false, false] rfl rfl (any_of HT_.out (by kernel_rfl)) (fun _ _ _ h => h) (Or.inr ⟨by rfl, rfl⟩) ?_ ?_
                            rotate_left
                            · simp only [Act.put, List.setIfInBounds_toArray, List.set_cons_zero, List.set_cons_succ, i64_w, i32_w]
                              rfl
                            refine pure_ (i := 12) (N := some 59) (v := undef) (a' := ?_) #[true, true, true, true, true, true, true, true, true, true, true, true, true, false, false, false, false, false, false, false, false, false, false] rfl rfl (any_of HT_.out (by kernel_rfl)) (fun _ _ _ h => h) (Or.inr ⟨by rfl, rfl⟩) ?_ ?_
                            rotate_left
                            · simp only [Act.put, List.setIfInBounds_toArray, List.set_cons_zero, List.set_cons_succ, i64_w, i32_w]
                              rfl
                            refine pure_ (i := 13) (N := some 60) (v := undef) (a' := ?_) #[true, true, true, true, true, true, true, true, true, true, true, true, true, true, false, false, false, false, false, false, false, false, false] rfl rfl (any_of HT_.out (by kernel_rfl)) (fun _ _ _ h => h) (Or.inr ⟨by rfl, rfl⟩) ?_ ?_
                            rotate_left
                            · simp only [Act.put, List.setIfInBounds_toArray, List.set_cons_zero, List.set_cons_succ, i64_w, i32_w]
                              rfl
                            refine pure_ (i := 14) (N := some 61) (v := undef) (a' := ?_) #[true, true, true, true, true, true, true, true, true, true, true, true, true, true, true, false, false, false, false, false, false, false, false] rfl rfl (any_of HT_.out (by kernel_rfl)) (fun _ _ _ h => h) (Or.inr ⟨by rfl, rfl⟩) ?_ ?_
                            rotate_left
                            · simp only [Act.put, List.setIfInBounds_toArray, List.set_cons_zero, List.set_cons_succ, i64_w, i32_w]
                              rfl
                            refine pure_ (i := 15) (N := some 62) (v := undef) (a' := ?_) #[true, true, true, true, true, true, true, true, true, true, true, true, true, true, true, true, false, false, false, false, false, false, false] rfl rfl (any_of HT_.out (by kernel_rfl)) (fun _ _ _ h => h) (Or.inr ⟨by rfl, rfl⟩) ?_ ?_
                            rotate_left
                            · simp only [Act.put, List.setIfInBounds_toArray, List.set_cons_zero, List.set_cons_succ, i64_w, i32_w]
                              rfl
                            refine pure_ (i := 16) (N := some 63) (v := undef) (a' := ?_) #[true, true, true, true, true, true, true, true, true, true, true, true, true, true, true, true, true, false, false, false, false, false, false] rfl rfl (any_of HT_.out (by kernel_rfl)) (fun _ _ _ h => h) (Or.inr ⟨by rfl, rfl⟩) ?_ ?_
                            rotate_left
                            · simp only [Act.put, List.setIfInBounds_toArray, List.set_cons_zero, List.set_cons_succ, i64_w, i32_w]
                              rfl
                            refine pure_ (i := 17) (N := some 64) (v := undef) (a' := ?_) #[true, true, true, true, true, true, true, true, true, true, true, true, true, true, true, true, true, true, false, false, false, false, false] rfl rfl (any_of HT_.out (by kernel_rfl)) (fun _ _ _ h => h) (Or.inr ⟨by rfl, rfl⟩) ?_ ?_
                            rotate_left
                            · simp only [Act.put, List.setIfInBounds_toArray, List.set_cons_zero, List.set_cons_succ, i64_w, i32_w]
                              rfl
                            refine pure_ (i := 18) (N := some 65) (v := undef) (a' := ?_) #[true, true, true, true, true, true, true, true, true, true, true, true, true, true, true, true, true, true, true, false, false, false, false] rfl rfl (any_of HT_.out (by kernel_rfl)) (fun _ _ _ h => h) (Or.inr ⟨by rfl, rfl⟩) ?_ ?_
                            rotate_left
                            · simp only [Act.put, List.setIfInBounds_toArray, List.set_cons_zero, List.set_cons_succ, i64_w, i32_w]
                              rfl
                            refine pure_ (i := 19) (N := some 66) (v := undef) (a' := ?_) #[true, true, true, true, true, true, true, true, true, true, true, true, true, true, true, true, true, true, true, true, false, false, false] rfl rfl (any_of HT_.out (by kernel_rfl)) (fun _ _ _ h => h) (Or.inr ⟨by rfl, rfl⟩) ?_ ?_
                            rotate_left
                            · simp only [Act.put, List.setIfInBounds_toArray, List.set_cons_zero, List.set_cons_succ, i64_w, i32_w]
                              rfl
                            refine pure_ (i := 20) (N := some 67) (v := undef) (a' := ?_) #[true, true, true, true, true, true, true, true, true, true, true, true, true, true, true, true, true, true, true, true, true, false, false] rfl rfl (any_of HT_.out (by kernel_rfl)) (fun _ _ _ h => h) (Or.inr ⟨by rfl, rfl⟩) ?_ ?_
                            rotate_left
                            · simp only [Act.put, List.setIfInBounds_toArray, List.set_cons_zero, List.set_cons_succ, i64_w, i32_w]
                              rfl
                            refine pure_ (i := 21) (N := some 68) (v := undef) (a' := ?_) #[true, true, true, true, true, true, true, true, true, true, true, true, true, true, true, true, true, true, true, true, true, true, false] rfl rfl (any_of HT_.out (by kernel_rfl)) (fun _ _ _ h => h) (Or.inr ⟨by rfl, rfl⟩) ?_ ?_
                            rotate_left
                            · simp only [Act.put, List.setIfInBounds_toArray, List.set_cons_zero, List.set_cons_succ, i64_w, i32_w]
                              rfl
                            refine pure_ (i := 22) (N := some 69) (v := ?_) (a' := ?_) #[true, true, true, true, true, true, true, true, true, true, true, true, true, true, true, true, true, true, true, true, true, true, true] rfl rfl (any_of HT_.out (by kernel_rfl)) (fun _ _ _ h => h) (Or.inl ⟨by rfl, ?_⟩) ?_ ?_
                            rotate_left
                            · intro w'
                              go_simp
                              with_reducible rfl
                            rotate_left
                            · simp only [Act.put, List.setIfInBounds_toArray, List.set_cons_zero, List.set_cons_succ, i64_w, i32_w]
                              rfl
                            refine done_ (done_of HT_.out (by kernel_rfl)) ?_
                            try go_wp2
                            go_ret
                            exact ⟨by first | rfl | (simp [errW_none, errW_some] <;> rfl) | (simp [*, errW_none, errW_some] <;> rfl), by repeat (first | (with_reducible first | exact HB.out | apply below_alloc | apply pw_below_drewN | apply below_drew1 | refine below_set ?_ GE129.out | refine below_set ?_ GE132.out) | exact HB.out)⟩
                        · rw [if_neg c30] at H
                          exact absurd H (by simp)
                      · rw [if_neg c29] at H
                        exact absurd H (by simp)
                    · rw [if_neg c28] at H
                      have c28b0 : decide (x42_3 < (l0_5.length : Int)) = false := decide_eq_false c28
                      clear c28
                      by_cases c72 : a0_0 = 2
                      · rw [if_pos c72] at H
                        have c72b0 : (a0_0 == 2) = true := beq_iff_eq.mpr c72
                        have c72b1 : (a0_0 != 2) = false := bne_eq_false_iff_eq.mpr c72
                        clear c72
                        obtain rfl := Option.some.inj H
                        have hcz73_0 : wr.cell? ⟨gb129, 0, none⟩ = some (.int .i64 a0_0) := (blk_cell BK129.out 0).trans rfl
                        have hcz73_1 : wr.cell? ⟨gb129, 1, none⟩ = some (.int .i64 a0_1) := (blk_cell BK129.out 1).trans rfl
                        have hcz73_2 : wr.cell? ⟨gb129, 2, none⟩ = some (.int .i64 a0_2) := (blk_cell BK129.out 2).trans rfl
                        have hcz73_3 : wr.cell? ⟨gb129, 3, none⟩ = some (.string a0_3) := (blk_cell BK129.out 3).trans rfl
                        have hcz73_4 : wr.cell? ⟨gb129, 4, none⟩ = some (.string a0_4) := (blk_cell BK129.out 4).trans rfl
                        have hcz73_5 : wr.cell? ⟨gb129, 5, none⟩ = some (.slice A0_5 l0_5.length c0_5) := (blk_cell BK129.out 5).trans rfl
                        have hcz73_6 : wr.cell? ⟨gb129, 6, none⟩ = some (.slice A0_6 l0_6.length c0_6) := (blk_cell BK129.out 6).trans rfl
                        have hfz73_0 := blk_frozen BK129.out 0
                        have hfz73_1 := blk_frozen BK129.out 1
                        have hfz73_2 := blk_frozen BK129.out 2
                        have hfz73_3 := blk_frozen BK129.out 3
                        have hfz73_4 := blk_frozen BK129.out 4
                        have hfz73_5 := blk_frozen BK129.out 5
                        have hfz73_6 := blk_frozen BK129.out 6
                        go_wp2
                        go_ret
                        exact ⟨by first | rfl | (simp [errW_none, errW_some] <;> rfl) | (simp [*, errW_none, errW_some] <;> rfl), by repeat (first | (with_reducible first | exact HB.out | apply below_alloc | apply pw_below_drewN | apply below_drew1 | refine below_set ?_ GE129.out) | exact HB.out)⟩
                      · rw [if_neg c72] at H
                        have c72b0 : (a0_0 == 2) = false := beq_eq_false_iff_ne.mpr c72
                        have c72b1 : (a0_0 != 2) = true := bne_iff_ne.mpr c72
                        by_cases c74 : (l0_6.length : Int) = (l0_5.length : Int)
                        · rw [if_pos c74] at H
                          have c74b0 : ((l0_6.length : Int) == (l0_5.length : Int)) = true := beq_iff_eq.mpr c74
                          have c74b1 : ((l0_6.length : Int) != (l0_5.length : Int)) = false := bne_eq_false_iff_eq.mpr c74
                          have c74b2 : (l0_6.length == l0_5.length) = true := by first | simpa using c74 | (simp at c74 ⊢; omega)
                          clear c74
                          have H' := Aside0.mk H
                          clear H
                          have hcz75_0 : wr.cell? ⟨gb129, 0, none⟩ = some (.int .i64 a0_0) := (blk_cell BK129.out 0).trans rfl
                          have hcz75_1 : wr.cell? ⟨gb129, 1, none⟩ = some (.int .i64 a0_1) := (blk_cell BK129.out 1).trans rfl
                          have hcz75_2 : wr.cell? ⟨gb129, 2, none⟩ = some (.int .i64 a0_2) := (blk_cell BK129.out 2).trans rfl
                          have hcz75_3 : wr.cell? ⟨gb129, 3, none⟩ = some (.string a0_3) := (blk_cell BK129.out 3).trans rfl
                          have hcz75_4 : wr.cell? ⟨gb129, 4, none⟩ = some (.string a0_4) := (blk_cell BK129.out 4).trans rfl
                          have hcz75_5 : wr.cell? ⟨gb129, 5, none⟩ = some (.slice A0_5 l0_5.length c0_5) := (blk_cell BK129.out 5).trans rfl
                          have hcz75_6 : wr.cell? ⟨gb129, 6, none⟩ = some (.slice A0_6 l0_6.length c0_6) := (blk_cell BK129.out 6).trans rfl
                          have hfz75_0 := blk_frozen BK129.out 0
                          have hfz75_1 := blk_frozen BK129.out 1
                          have hfz75_2 := blk_frozen BK129.out 2
                          have hfz75_3 := blk_frozen BK129.out 3
                          have hfz75_4 := blk_frozen BK129.out 4
                          have hfz75_5 := blk_frozen BK129.out 5
                          have hfz75_6 := blk_frozen BK129.out 6
                          go_wp2
                          go_loopg [88] k3 (fun kq v88 w' => ∃ (x88_4 : Int), v88 = .int .i64 x88_4 ∧ Aside0 (spec_GoodValue.l1 kq l0_6 (l0_6.length : Int) x88_4 a0_0 a0_1 a0_2 a0_3 a0_4 l0_5 l0_6 = some r) ∧ Aside0 (kq ≤ k3) ∧ Aside0 (w'.heap[gb129]? = some (.cells #[.int .i64 a0_0, .int .i64 a0_1, .int .i64 a0_2, .string a0_3, .string a0_4, (.slice A0_5 l0_5.length c0_5), (.slice A0_6 l0_6.length c0_6)] 63 (0, 0))) ∧ Aside0 (Below w.heap.size w w'))
                          case atStart => exact ⟨(0), (by first | rfl | (simp; done) | (simp [pw_ne_nil, pw_eq_nil]; done) | (simp [*]; done)), H', ⟨Nat.le_refl _⟩, ⟨by (with_reducible repeat (first | refine blk_drewN ?_ _ | refine blk_drew ?_ | refine blk_alloc ?_ _)); exact BK129.out⟩, ⟨by repeat (first | (with_reducible first | exact HB.out | apply below_alloc | apply pw_below_drewN | apply below_drew1 | refine below_set ?_ GE129.out) | exact HB.out)⟩⟩
                          case round =>
                            clear H'
                            try clear p1
                            try clear q1
                            try clear hx1
                            try clear c2
                            try clear p2
                            try clear c3
                            try clear c6
                            try clear p6
                            try clear c7
                            try clear p13
                            try clear q13
                            try clear hx13
                            try clear c28
                            try clear c28b0
                            try clear c29
                            try clear c30
                            try clear c32
                            try clear c33
                            try clear c33b0
                            try clear c33b1
                            try clear c61
                            try clear p64
                            try clear c67
                            try clear c72
                            try clear c72b0
                            try clear c72b1
                            try clear c73
                            try clear c74
                            try clear c74b0
                            try clear c74b1
                            try clear c74b2
                            try clear hcz62_0
                            try clear hcz62_1
                            try clear hcz62_2
                            try clear hcz62_3
                            try clear hcz68_0
                            try clear hcz68_1
                            try clear hcz68_2
                            try clear hcz68_3
                            try clear hcz73_0
                            try clear hcz73_1
                            try clear hcz73_2
                            try clear hcz73_3
                            try clear hcz73_4
                            try clear hcz73_5
                            try clear hcz73_6
                            try clear hcz75_0
                            try clear hcz75_1
                            try clear hcz75_2
                            try clear hcz75_3
                            try clear hcz75_4
                            try clear hcz75_5
                            try clear hcz75_6
                            try clear hfz62_0
                            try clear hfz62_1
                            try clear hfz62_2
                            try clear hfz62_3
                            try clear hfz68_0
                            try clear hfz68_1
                            try clear hfz68_2
                            try clear hfz68_3
                            try clear hfz73_0
                            try clear hfz73_1
                            try clear hfz73_2
                            try clear hfz73_3
                            try clear hfz73_4
                            try clear hfz73_5
                            try clear hfz73_6
                            try clear hfz75_0
                            try clear hfz75_1
                            try clear hfz75_2
                            try clear hfz75_3
                            try clear hfz75_4
                            try clear hfz75_5
                            try clear hfz75_6
                            try clear hx131_0
                            try clear hx131_1
                            try clear hx131_2
                            try clear hx131_3
                            try clear p131
                            try clear q131
                            obtain ⟨x88_4, rfl, HA, HK4, BK129, HB⟩ := hrel
                            cases gk with
                            | zero => exact absurd HA.out (by simp [spec_GoodValue.l1])
                            | succ k4 =>
                              have H := HA.out
                              clear HA
                              simp only [spec_GoodValue.l1] at H
                              by_cases c76 : x88_4 < (l0_6.length : Int)
                              · rw [if_pos c76] at H
                                have c76b0 : decide (x88_4 < (l0_6.length : Int)) = true := decide_eq_true c76
                                clear c76
                                by_cases c77 : 0 ≤ x88_4
                                · rw [if_pos c77] at H
                                  have c77b0 : decide (0 ≤ x88_4) = true := decide_eq_true c77
                                  clear c77
                                  by_cases c78 : x88_4 < (l0_6.length : Int)
                                  · rw [if_pos c78] at H
                                    have c78b0 : decide (x88_4 < (l0_6.length : Int)) = true := decide_eq_true c78
                                    clear c78
                                    replace H := Option.bind_eq_some_iff.mp H
                                    obtain ⟨t137, A790, H⟩ := H
                                    replace H : (if t137 = true then (if x88_4 > 0 then (if 0 ≤ (wrap64 (x88_4 - 1)) then (if (wrap64 (x88_4 - 1)) < (l0_6.length : Int) then ((spec_l1CmpText.f k4 (rdOf ByteArray.empty l0_6 (wrap64 (x88_4 - 1))) (rdOf ByteArray.empty l0_6 x88_4)).bind fun t139 => (if t139 ≥ 0 then (some false) else (spec_GoodValue.l1 k4 l0_6 (l0_6.length : Int) (wrap64 (x88_4 + 1)) a0_0 a0_1 a0_2 a0_3 a0_4 l0_5 l0_6))) else (none)) else (none)) else (spec_GoodValue.l1 k4 l0_6 (l0_6.length : Int) (wrap64 (x88_4 + 1)) a0_0 a0_1 a0_2 a0_3 a0_4 l0_5 l0_6)) else (some false)) = some r := H
                                    have A79 := Aside0.mk A790
                                    clear A790
                                    by_cases c80 : t137 = true
                                    · subst c80
                                      have H1 : (if x88_4 > 0 then (if 0 ≤ (wrap64 (x88_4 - 1)) then (if (wrap64 (x88_4 - 1)) < (l0_6.length : Int) then ((spec_l1CmpText.f k4 (rdOf ByteArray.empty l0_6 (wrap64 (x88_4 - 1))) (rdOf ByteArray.empty l0_6 x88_4)).bind fun t139 => (if t139 ≥ 0 then (some false) else (spec_GoodValue.l1 k4 l0_6 (l0_6.length : Int) (wrap64 (x88_4 + 1)) a0_0 a0_1 a0_2 a0_3 a0_4 l0_5 l0_6))) else (none)) else (none)) else (spec_GoodValue.l1 k4 l0_6 (l0_6.length : Int) (wrap64 (x88_4 + 1)) a0_0 a0_1 a0_2 a0_3 a0_4 l0_5 l0_6)) = some r := by rw [if_pos rfl] at H; exact H
                                      clear H
                                      have H := H1
                                      clear H1
                                      by_cases c81 : x88_4 > 0
                                      · rw [if_pos c81] at H
                                        have c81b0 : decide (0 < x88_4) = true := decide_eq_true c81
                                        clear c81
                                        obtain ⟨ji82, hji82⟩ : ∃ j_ : Int, (wrap64 (x88_4 - 1)) = j_ := ⟨_, rfl⟩
                                        replace H : (if 0 ≤ (ji82) then (if (ji82) < (l0_6.length : Int) then ((spec_l1CmpText.f k4 (rdOf ByteArray.empty l0_6 (ji82)) (rdOf ByteArray.empty l0_6 x88_4)).bind fun t139 => (if t139 ≥ 0 then (some false) else (spec_GoodValue.l1 k4 l0_6 (l0_6.length : Int) (wrap64 (x88_4 + 1)) a0_0 a0_1 a0_2 a0_3 a0_4 l0_5 l0_6))) else (none)) else (none)) = some r := by first | (rw [hji82] at H; exact H) | (simp only [hji82] at H ⊢; exact H)
                                        (try rw [hji82] at A79)
                                        have hji82w : (IntKind.i64.wrap (x88_4 - 1)) = ji82 := (i64_w _).trans hji82
                                        by_cases c83 : 0 ≤ (ji82)
                                        · rw [if_pos c83] at H
                                          have c83b0 : decide (0 ≤ (ji82)) = true := decide_eq_true c83
                                          clear c83
                                          by_cases c84 : (ji82) < (l0_6.length : Int)
                                          · rw [if_pos c84] at H
                                            have c84b0 : decide ((ji82) < (l0_6.length : Int)) = true := decide_eq_true c84
                                            clear c84
                                            replace H := Option.bind_eq_some_iff.mp H
                                            obtain ⟨t139, A850, H⟩ := H
                                            replace H : (if t139 ≥ 0 then (some false) else (spec_GoodValue.l1 k4 l0_6 (l0_6.length : Int) (wrap64 (x88_4 + 1)) a0_0 a0_1 a0_2 a0_3 a0_4 l0_5 l0_6)) = some r := H
                                            have A85 := Aside0.mk A850
                                            clear A850
                                            by_cases c86 : t139 ≥ 0
                                            · rw [if_pos c86] at H
                                              have c86b0 : decide (0 ≤ t139) = true := decide_eq_true c86
                                              clear c86
                                              obtain rfl := Option.some.inj H
                                              have p136 : 0 ≤ (x88_4 : Int) := of_decide_eq_true (by first | (with_reducible assumption) | assumption)
                                              have q136 : x88_4 < (l0_6.length : Int) := of_decide_eq_true (by first | (with_reducible assumption) | assumption)
                                              obtain ⟨ad136, e136, hx136_0⟩ := Kd.at_string HR0_6.out x88_4 p136 q136
                                              cases e136
                                              replace hx136_0 := (HB.out.cell (World.block_lt_of_cell? w _ hx136_0)).trans hx136_0
                                              replace p136 := eq_true p136
                                              replace q136 := eq_true q136
                                              go_wp2_with (first | ((with_reducible refine gate_callee (f := 57) rfl ?_); refine goesL_ (some 94) rfl rfl Try.func57 (by kernel_rfl) rfl #[.string (rdOf ByteArray.empty l0_6 x88_4)] rfl (by (try simp only [List.map_toArray, List.map_cons, List.map_nil]); first | done | rfl | (simp only [List.length_drop, List.length_take]; rfl)) ?_; (with_reducible refine (spec_GoodName.calls k4 (rdOf ByteArray.empty l0_6 x88_4) true _ A79.out).mono ?_); rintro e w' ⟨rfl, ⟨nd, rfl⟩⟩; refine ⟨_, rfl, ?_⟩; have hcz87_0 : wr.cell? ⟨gb129, 0, none⟩ = some (.int .i64 a0_0) := (blk_cell BK129.out 0).trans rfl; have hcz87_1 : wr.cell? ⟨gb129, 1, none⟩ = some (.int .i64 a0_1) := (blk_cell BK129.out 1).trans rfl; have hcz87_2 : wr.cell? ⟨gb129, 2, none⟩ = some (.int .i64 a0_2) := (blk_cell BK129.out 2).trans rfl; have hcz87_3 : wr.cell? ⟨gb129, 3, none⟩ = some (.string a0_3) := (blk_cell BK129.out 3).trans rfl; have hcz87_4 : wr.cell? ⟨gb129, 4, none⟩ = some (.string a0_4) := (blk_cell BK129.out 4).trans rfl; have hcz87_5 : wr.cell? ⟨gb129, 5, none⟩ = some (.slice A0_5 l0_5.length c0_5) := (blk_cell BK129.out 5).trans rfl; have hcz87_6 : wr.cell? ⟨gb129, 6, none⟩ = some (.slice (some ad136) l0_6.length c0_6) := (blk_cell BK129.out 6).trans rfl; have hfz87_0 := blk_frozen BK129.out 0; have hfz87_1 := blk_frozen BK129.out 1; have hfz87_2 := blk_frozen BK129.out 2; have hfz87_3 := blk_frozen BK129.out 3; have hfz87_4 := blk_frozen BK129.out 4; have hfz87_5 := blk_frozen BK129.out 5; have hfz87_6 := blk_frozen BK129.out 6; have p138 : 0 ≤ ((ji82) : Int) := of_decide_eq_true (by first | (with_reducible assumption) | assumption); have q138 : (ji82) < (l0_6.length : Int) := of_decide_eq_true (by first | (with_reducible assumption) | assumption); obtain ⟨ad138, e138, hx138_0⟩ := Kd.at_string HR0_6.out (ji82) p138 q138; obtain rfl : ad136 = ad138 := (by injection e138); replace hx138_0 := (HB.out.cell (World.block_lt_of_cell? w _ hx138_0)).trans hx138_0; replace p138 := eq_true p138; replace q138 := eq_true q138) | (go_at_call 58; (with_reducible refine (spec_l1CmpText.calls k4 (rdOf ByteArray.empty l0_6 (ji82)) (rdOf ByteArray.empty l0_6 x88_4) t139 _ A85.out).mono ?_); rintro e w' ⟨rfl, ⟨nd, rfl⟩⟩))
                                              go_ret
                                              exact ⟨by first | rfl | (simp [errW_none, errW_some] <;> rfl) | (simp only [← hji82]; first | rfl | (simp [errW_none, errW_some] <;> rfl)) | (simp [*, errW_none, errW_some] <;> rfl), by repeat (first | (with_reducible first | exact HB.out | apply below_alloc | apply pw_below_drewN | apply below_drew1 | refine below_set ?_ GE129.out) | exact HB.out)⟩
                                            · rw [if_neg c86] at H
                                              have c86b0 : decide (0 ≤ t139) = false := decide_eq_false c86
                                              clear c86
                                              have H' := Aside0.mk H
                                              clear H
                                              have p136 : 0 ≤ (x88_4 : Int) := of_decide_eq_true (by first | (with_reducible assumption) | assumption)
                                              have q136 : x88_4 < (l0_6.length : Int) := of_decide_eq_true (by first | (with_reducible assumption) | assumption)
                                              obtain ⟨ad136, e136, hx136_0⟩ := Kd.at_string HR0_6.out x88_4 p136 q136
                                              cases e136
                                              replace hx136_0 := (HB.out.cell (World.block_lt_of_cell? w _ hx136_0)).trans hx136_0
                                              replace p136 := eq_true p136
                                              replace q136 := eq_true q136
                                              go_wp2_with (first | ((with_reducible refine gate_callee (f := 57) rfl ?_); refine goesL_ (some 94) rfl rfl Try.func57 (by kernel_rfl) rfl #[.string (rdOf ByteArray.empty l0_6 x88_4)] rfl (by (try simp only [List.map_toArray, List.map_cons, List.map_nil]); first | done | rfl | (simp only [List.length_drop, List.length_take]; rfl)) ?_; (with_reducible refine (spec_GoodName.calls k4 (rdOf ByteArray.empty l0_6 x88_4) true _ A79.out).mono ?_); rintro e w' ⟨rfl, ⟨nd, rfl⟩⟩; refine ⟨_, rfl, ?_⟩; have hcz88_0 : wr.cell? ⟨gb129, 0, none⟩ = some (.int .i64 a0_0) := (blk_cell BK129.out 0).trans rfl; have hcz88_1 : wr.cell? ⟨gb129, 1, none⟩ = some (.int .i64 a0_1) := (blk_cell BK129.out 1).trans rfl; have hcz88_2 : wr.cell? ⟨gb129, 2, none⟩ = some (.int .i64 a0_2) := (blk_cell BK129.out 2).trans rfl; have hcz88_3 : wr.cell? ⟨gb129, 3, none⟩ = some (.string a0_3) := (blk_cell BK129.out 3).trans rfl; have hcz88_4 : wr.cell? ⟨gb129, 4, none⟩ = some (.string a0_4) := (blk_cell BK129.out 4).trans rfl; have hcz88_5 : wr.cell? ⟨gb129, 5, none⟩ = some (.slice A0_5 l0_5.length c0_5) := (blk_cell BK129.out 5).trans rfl; have hcz88_6 : wr.cell? ⟨gb129, 6, none⟩ = some (.slice (some ad136) l0_6.length c0_6) := (blk_cell BK129.out 6).trans rfl; have hfz88_0 := blk_frozen BK129.out 0; have hfz88_1 := blk_frozen BK129.out 1; have hfz88_2 := blk_frozen BK129.out 2; have hfz88_3 := blk_frozen BK129.out 3; have hfz88_4 := blk_frozen BK129.out 4; have hfz88_5 := blk_frozen BK129.out 5; have hfz88_6 := blk_frozen BK129.out 6; have p138 : 0 ≤ ((ji82) : Int) := of_decide_eq_true (by first | (with_reducible assumption) | assumption); have q138 : (ji82) < (l0_6.length : Int) := of_decide_eq_true (by first | (with_reducible assumption) | assumption); obtain ⟨ad138, e138, hx138_0⟩ := Kd.at_string HR0_6.out (ji82) p138 q138; obtain rfl : ad136 = ad138 := (by injection e138); replace hx138_0 := (HB.out.cell (World.block_lt_of_cell? w _ hx138_0)).trans hx138_0; replace p138 := eq_true p138; replace q138 := eq_true q138) | (go_at_call 58; (with_reducible refine (spec_l1CmpText.calls k4 (rdOf ByteArray.empty l0_6 (ji82)) (rdOf ByteArray.empty l0_6 x88_4) t139 _ A85.out).mono ?_); rintro e w' ⟨rfl, ⟨nd, rfl⟩⟩))
                                              go_roundg k4
                                              case measure => have := HJ16.out; have := HJ21.out; have := HK3.out; have := HK4.out; omega
                                              case rel => exact ⟨(wrap64 (x88_4 + 1)), (by first | rfl | (simp; done) | (simp [pw_ne_nil, pw_eq_nil]; done) | (simp [*]; done)), H', ⟨by have := HJ16.out; have := HJ21.out; have := HK3.out; have := HK4.out; omega⟩, ⟨by (with_reducible repeat (first | refine blk_drewN ?_ _ | refine blk_drew ?_ | refine blk_alloc ?_ _)); exact BK129.out⟩, ⟨by repeat (first | (with_reducible first | exact HB.out | apply below_alloc | apply pw_below_drewN | apply below_drew1 | refine below_set ?_ GE129.out) | exact HB.out)⟩⟩
                                          · rw [if_neg c84] at H
                                            exact absurd H (by simp)
                                        · rw [if_neg c83] at H
                                          exact absurd H (by simp)
                                      · rw [if_neg c81] at H
                                        have c81b0 : decide (0 < x88_4) = false := decide_eq_false c81
                                        clear c81
                                        have H' := Aside0.mk H
                                        clear H
                                        have p136 : 0 ≤ (x88_4 : Int) := of_decide_eq_true (by first | (with_reducible assumption) | assumption)
                                        have q136 : x88_4 < (l0_6.length : Int) := of_decide_eq_true (by first | (with_reducible assumption) | assumption)
                                        obtain ⟨ad136, e136, hx136_0⟩ := Kd.at_string HR0_6.out x88_4 p136 q136
                                        cases e136
                                        replace hx136_0 := (HB.out.cell (World.block_lt_of_cell? w _ hx136_0)).trans hx136_0
                                        replace p136 := eq_true p136
                                        replace q136 := eq_true q136
                                        go_wp2_with (first | ((with_reducible refine gate_callee (f := 57) rfl ?_); refine goesL_ (some 94) rfl rfl Try.func57 (by kernel_rfl) rfl #[.string (rdOf ByteArray.empty l0_6 x88_4)] rfl (by (try simp only [List.map_toArray, List.map_cons, List.map_nil]); first | done | rfl | (simp only [List.length_drop, List.length_take]; rfl)) ?_; (with_reducible refine (spec_GoodName.calls k4 (rdOf ByteArray.empty l0_6 x88_4) true _ A79.out).mono ?_); rintro e w' ⟨rfl, ⟨nd, rfl⟩⟩; refine ⟨_, rfl, ?_⟩))
                                        go_roundg k4
                                        case measure => have := HJ16.out; have := HJ21.out; have := HK3.out; have := HK4.out; omega
                                        case rel => exact ⟨(wrap64 (x88_4 + 1)), (by first | rfl | (simp; done) | (simp [pw_ne_nil, pw_eq_nil]; done) | (simp [*]; done)), H', ⟨by have := HJ16.out; have := HJ21.out; have := HK3.out; have := HK4.out; omega⟩, ⟨by (with_reducible repeat (first | refine blk_drewN ?_ _ | refine blk_drew ?_ | refine blk_alloc ?_ _)); exact BK129.out⟩, ⟨by repeat (first | (with_reducible first | exact HB.out | apply below_alloc | apply pw_below_drewN | apply below_drew1 | refine below_set ?_ GE129.out) | exact HB.out)⟩⟩
                                    · replace c80 := Bool.eq_false_iff.mpr c80
                                      subst c80
                                      have H1 : (some false) = some r := by rw [if_neg (show ¬ (false = true) by decide)] at H; exact H
                                      clear H
                                      have H := H1
                                      clear H1
                                      obtain rfl := Option.some.inj H
                                      have p136 : 0 ≤ (x88_4 : Int) := of_decide_eq_true (by first | (with_reducible assumption) | assumption)
                                      have q136 : x88_4 < (l0_6.length : Int) := of_decide_eq_true (by first | (with_reducible assumption) | assumption)
                                      obtain ⟨ad136, e136, hx136_0⟩ := Kd.at_string HR0_6.out x88_4 p136 q136
                                      cases e136
                                      replace hx136_0 := (HB.out.cell (World.block_lt_of_cell? w _ hx136_0)).trans hx136_0
                                      replace p136 := eq_true p136
                                      replace q136 := eq_true q136
                                      go_wp2_with (first | ((with_reducible refine gate_callee (f := 57) rfl ?_); refine goesL_ (some 94) rfl rfl Try.func57 (by kernel_rfl) rfl #[.string (rdOf ByteArray.empty l0_6 x88_4)] rfl (by (try simp only [List.map_toArray, List.map_cons, List.map_nil]); first | done | rfl | (simp only [List.length_drop, List.length_take]; rfl)) ?_; (with_reducible refine (spec_GoodName.calls k4 (rdOf ByteArray.empty l0_6 x88_4) false _ A79.out).mono ?_); rintro e w' ⟨rfl, ⟨nd, rfl⟩⟩; refine ⟨_, rfl, ?_⟩))
                                      go_ret
                                      exact ⟨by first | rfl | (simp [errW_none, errW_some] <;> rfl) | (simp [*, errW_none, errW_some] <;> rfl), by repeat (first | (with_reducible first | exact HB.out | apply below_alloc | apply pw_below_drewN | apply below_drew1 | refine below_set ?_ GE129.out) | exact HB.out)⟩
                                  · rw [if_neg c78] at H
                                    exact absurd H (by simp)
                                · rw [if_neg c77] at H
                                  exact absurd H (by simp)
                              · rw [if_neg c76] at H
                                have c76b0 : decide (x88_4 < (l0_6.length : Int)) = false := decide_eq_false c76
                                clear c76
                                obtain rfl := Option.some.inj H
                                go_wp2
                                go_ret
                                exact ⟨by first | rfl | (simp [errW_none, errW_some] <;> rfl) | (simp [*, errW_none, errW_some] <;> rfl), by repeat (first | (with_reducible first | exact HB.out | apply below_alloc | apply pw_below_drewN | apply below_drew1 | refine below_set ?_ GE129.out) | exact HB.out)⟩
                        · rw [if_neg c74] at H
                          have c74b0 : ((l0_6.length : Int) == (l0_5.length : Int)) = false := beq_eq_false_iff_ne.mpr c74
                          have c74b1 : ((l0_6.length : Int) != (l0_5.length : Int)) = true := bne_iff_ne.mpr c74
                          have c74b2 : (l0_6.length == l0_5.length) = false := by first | simpa using c74 | (simp at c74 ⊢; omega)
                          obtain rfl := Option.some.inj H
                          have hcz89_0 : wr.cell? ⟨gb129, 0, none⟩ = some (.int .i64 a0_0) := (blk_cell BK129.out 0).trans rfl
                          have hcz89_1 : wr.cell? ⟨gb129, 1, none⟩ = some (.int .i64 a0_1) := (blk_cell BK129.out 1).trans rfl
                          have hcz89_2 : wr.cell? ⟨gb129, 2, none⟩ = some (.int .i64 a0_2) := (blk_cell BK129.out 2).trans rfl
                          have hcz89_3 : wr.cell? ⟨gb129, 3, none⟩ = some (.string a0_3) := (blk_cell BK129.out 3).trans rfl
                          have hcz89_4 : wr.cell? ⟨gb129, 4, none⟩ = some (.string a0_4) := (blk_cell BK129.out 4).trans rfl
                          have hcz89_5 : wr.cell? ⟨gb129, 5, none⟩ = some (.slice A0_5 l0_5.length c0_5) := (blk_cell BK129.out 5).trans rfl
                          have hcz89_6 : wr.cell? ⟨gb129, 6, none⟩ = some (.slice A0_6 l0_6.length c0_6) := (blk_cell BK129.out 6).trans rfl
                          have hfz89_0 := blk_frozen BK129.out 0
                          have hfz89_1 := blk_frozen BK129.out 1
                          have hfz89_2 := blk_frozen BK129.out 2
                          have hfz89_3 := blk_frozen BK129.out 3
                          have hfz89_4 := blk_frozen BK129.out 4
                          have hfz89_5 := blk_frozen BK129.out 5
                          have hfz89_6 := blk_frozen BK129.out 6
                          go_wp2
                          go_ret
                          exact ⟨by first | rfl | (simp [errW_none, errW_some] <;> rfl) | (simp [*, errW_none, errW_some] <;> rfl), by repeat (first | (with_reducible first | exact HB.out | apply below_alloc | apply pw_below_drewN | apply below_drew1 | refine below_set ?_ GE129.out) | exact HB.out)⟩
        · replace c21 := Bool.eq_false_iff.mpr c21
          subst c21
          have H1 : (some false) = some r := by rw [if_neg (show ¬ (false = true) by decide)] at H; exact H
          clear H
          have H := H1
          clear H1
          obtain rfl := Option.some.inj H
          go_wp2
          go_ret
          exact ⟨by first | rfl | (simp [errW_none, errW_some] <;> rfl) | (simp [*, errW_none, errW_some] <;> rfl), by repeat (first | (with_reducible first | exact HB.out | apply below_alloc | apply pw_below_drewN | apply below_drew1 | refine below_set ?_ GE129.out) | exact HB.out)⟩

end Go.Proofs.Ytcgiegkcmofhhaa.PFnExactGoodValue
