-- Written for this claim by a program of this session, which goes by the kit's print and takes contracts proved by hand.
import Derived.Test.YtcgiegkcmofhhabPFnExactMissingx0
import Derived.Test.YtcgiegkcmofhhabPFnExactMissingx13
namespace Go.Proofs.Ytcgiegkcmofhhab.PFnExactMissing
open Go.RowKit Go.Proofs.YtcgiegkcmofhhabW.PrintWords Go.Proofs.YtcgiegkcmofhhabW.PrintLast Go.Proofs.YtcgiegkcmofhhabW.PrintMore
attribute [local go_sem] max2_int min2_int max_two min_two max_three min_three max_four min_four   -- for this text's walks alone
set_option linter.unusedVariables false
set_option linter.unusedSimpArgs false

/-! ### impl_Missing: function 34 -/
abbrev rdG (l : List S95) (k : Nat) : S95 := rd_T95 l (k : Int)
abbrev rdW (v : List S25) (k : Nat) : S25 := rd_T25 v (k : Int)
def cellsG (c : S95) : Array Value := #[.int .i64 c.f0.f0, .int .i64 c.f0.f1, .int .i64 c.f1, .int .i64 c.f2, .int .i64 c.f3, .string c.f4.f0, .string c.f4.f1, .string c.f5, .string c.f6]
def idxV (v : List S25) (who : Int) : Nat → Nat → Int
  | 0, _ => -1
  | d + 1, i => if (rdW v i).f1 = who then (i : Int) else idxV v who d (i + 1)
theorem idxV_range (v : List S25) (who : Int) : ∀ d i, idxV v who d i = -1 ∨ ((i : Int) ≤ idxV v who d i ∧ idxV v who d i < (i : Int) + d)
  | 0, i => Or.inl rfl
  | d + 1, i => by
    unfold idxV
    split
    · exact Or.inr ⟨by omega, by omega⟩
    · rcases idxV_range v who d (i + 1) with h | h
      · exact Or.inl h
      · exact Or.inr ⟨by omega, by omega⟩
def risesV (v : List S25) : Nat → Bool
  | 0 => true
  | k + 1 => risesV v k && (decide (k = 0) || decide ((rdW v (k - 1)).f1 < (rdW v k).f1))
theorem risesV_le (v : List S25) (n : Nat) : ∀ m, n ≤ m → risesV v m = true → risesV v n = true
  | 0, h, h1 => by obtain rfl : n = 0 := by omega
                   exact h1
  | m + 1, h, h1 => by
    by_cases e : n = m + 1
    · subst e; exact h1
    · simp only [risesV, Bool.and_eq_true] at h1
      exact risesV_le v n m (by omega) h1.1
def needV (v : List S25) (c : S95) : Bool := decide (idxV v c.f0.f1 v.length 0 < 0) || decide (c.f0.f0 > (rd_T25 v (idxV v c.f0.f1 v.length 0)).f0)
def missV (l : List S95) (v : List S25) : Nat → List S95
  | 0 => []
  | k + 1 => if needV v (rdG l k) = true then missV l v k ++ [rdG l k] else missV l v k
theorem missV_len (l : List S95) (v : List S25) : ∀ i, (missV l v i).length ≤ i
  | 0 => Nat.le_refl _
  | i + 1 => by
    have := missV_len l v i
    unfold missV
    split
    · rw [List.length_append]; simp; omega
    · omega
theorem measG {n i : Nat} {x : Int} (hx : x = (i : Int) + 1) (hi : i < n) : n - (intOf (.int .i64 x)).toNat < n - (intOf (.int .i64 (i : Int))).toNat := by
  subst hx
  show n - ((i : Int) + 1).toNat < n - (i : Int).toNat
  omega
def impl_Missing.f (k : Nat) (l0 : List S95) (l1 : List S25) : Option (List S95) := (impl_GoodLog.f k l0).bind fun t => (if t = true then (if l1.length ≤ 100 then (if risesV l1 l1.length = true then (if l0.length ≤ 1048576 then some (missV l0 l1 l0.length) else none) else some []) else some []) else some [])
theorem impl_Missing.mono : ∀ a0 a1 k, LeO (impl_Missing.f k a0 a1) (impl_Missing.f (k + 1) a0 a1) := by
  intro a0 a1 k
  unfold impl_Missing.f
  exact LeO.bind (impl_GoodLog.mono _ _) fun _ => LeO.refl _
set_option maxHeartbeats 8000000 in
set_option maxRecDepth 100000 in
theorem missFn (s : S25) (c : S95) (g : Nat) (w : World) (hg : w.heap[g]? = some (.cells (cellsG c) 95 (0, 0))) :
    Calls Try.prog 72 #[.agg #[.int .i64 s.f0, .int .i64 s.f1], .pointer (some ⟨g, 0, none⟩)] w fun e w' => e = .returned (.bool (s.f1 == c.f0.f1)) ∧ Below w.heap.size w w' := by
  have hu95 := Try.underlying95
  have hu25 := Try.underlying25
  have hlt := blk_lt hg
  have BK := fun (o : Obj) => blk_alloc hg o
  have c1 := fun (o : Obj) => (blk_cell (BK o) 1).trans rfl
  simp only [cellsG] at c1
  clear BK
  have HG := Aside0.mk hg
  clear hg
  go_enter Try.func72, Try.ntmps72
  go_wp2
  go_ret
  exact ⟨rfl, below_alloc (Below.refl _ _) _⟩
set_option maxHeartbeats 8000000 in
set_option maxRecDepth 100000 in
theorem idxM (A1 : Option Addr) (c1 : Nat) (v : List S25) (c : S95) (g : Nat) (w : World) (hg : w.heap[g]? = some (.cells (cellsG c) 95 (0, 0))) (hr1 : Kd.C k25 w A1 v.length v) (hc1 : v.length ≤ c1) (hn : v.length ≤ 1048576) :
    Calls Try.prog 71 #[.slice A1 v.length c1, .func (.func 72) #[] #[.pointer (some ⟨g, 0, none⟩)]] w fun e w' => e = .returned (.int .i64 (idxV v c.f0.f1 v.length 0)) ∧ Below w.heap.size w w' := by
  have hu25 := Try.underlying25
  have HR1 := Aside0.mk hr1
  have HC1 := Aside0.mk hc1
  have HG := Aside0.mk hg
  clear hr1 hc1 hg
  go_enter Try.func71, Try.ntmps71
  go_wp2
  go_loopw [8] (fun v8 w' => ∃ i : Nat, i ≤ v.length ∧ v8 = .int .i64 i ∧ Aside0 (idxV v c.f0.f1 v.length 0 = idxV v c.f0.f1 (v.length - i) i) ∧ Aside0 (Below w.heap.size w w')) (fun v8 _ => v.length - (intOf v8).toNat)
  case atStart => exact ⟨0, Nat.zero_le _, rfl, ⟨rfl⟩, ⟨Below.refl _ _⟩⟩
  case round =>
    obtain ⟨i, hi, rfl, HI, HB⟩ := hrel
    by_cases hlt : i < v.length
    · have q1 := eq_true (show (i : Int) < v.length by omega)
      have q2 := eq_true (show (0 : Int) ≤ (i : Int) by omega)
      have hW : wrap64 ((i : Int) + 1) = (i : Int) + 1 := by unfold wrap64; omega
      obtain ⟨ad, e1, hx0, hx1⟩ := at_T25 HR1.out (i : Int) (by omega) (by omega)
      cases e1
      replace hx0 := (HB.out.cell (World.block_lt_of_cell? w _ hx0)).trans hx0
      replace hx1 := (HB.out.cell (World.block_lt_of_cell? w _ hx1)).trans hx1
      rw [Int.toNat_natCast] at hx0 hx1
      have HGR := Aside0.mk (blk_below HG.out HB.out)
      have HST := Aside0.mk (show idxV v c.f0.f1 (v.length - i) i = if (rdW v i).f1 = c.f0.f1 then (i : Int) else idxV v c.f0.f1 (v.length - (i + 1)) (i + 1) from by rw [show v.length - i = (v.length - (i + 1)) + 1 by omega]; rfl)
      by_cases hq : (rdW v i).f1 = c.f0.f1
      · have hqb : ((rdW v i).f1 == c.f0.f1) = true := beq_iff_eq.mpr hq
        have HST2 := Aside0.mk (show idxV v c.f0.f1 v.length 0 = (i : Int) from by rw [HI.out, HST.out, if_pos hq])
        clear hq
        go_wp2_with (first | ((first | go_at_call 72 | go_at_fn 72); refine (missFn (rdW v i) c g _ HGR.out).mono ?_; rintro e w2 ⟨rfl, hb⟩; have HB2 := Aside0.mk (HB.out.trans (Below.mono hb HB.out.size)); clear hb))
        go_ret
        exact ⟨by rw [HST2.out]; rfl, HB2.out⟩
      · have hqb : ((rdW v i).f1 == c.f0.f1) = false := beq_eq_false_iff_ne.mpr hq
        have HST2 := Aside0.mk (show idxV v c.f0.f1 v.length 0 = idxV v c.f0.f1 (v.length - (i + 1)) (i + 1) from by rw [HI.out, HST.out, if_neg hq])
        clear hq
        go_wp2_with (first | ((first | go_at_call 72 | go_at_fn 72); refine (missFn (rdW v i) c g _ HGR.out).mono ?_; rintro e w2 ⟨rfl, hb⟩; have HB2 := Aside0.mk (HB.out.trans (Below.mono hb HB.out.size)); clear hb))
        go_roundw
        case rel => exact ⟨i + 1, by omega, by go_num, HST2, HB2⟩
        case measure => exact measG (by with_reducible first | assumption | rfl) hlt
    · obtain rfl : i = v.length := by omega
      have HST2 := Aside0.mk (show idxV v c.f0.f1 v.length 0 = -1 from by rw [HI.out, Nat.sub_self]; rfl)
      go_wp2
      go_ret
      exact ⟨by rw [HST2.out]; rfl, HB.out⟩
set_option maxHeartbeats 8000000 in
set_option maxRecDepth 100000 in
theorem impl_Missing.calls (k : Nat) (A0 : Option Addr) (c0 : Nat) (l0 : List S95) (A1 : Option Addr) (c1 : Nat) (l1 : List S25) (r : List S95) (w : World) (hr0 : Kd.C k95 w A0 l0.length l0) (hc0 : l0.length ≤ c0) (hr1 : Kd.C k25 w A1 l1.length l1) (hc1 : l1.length ≤ c1) (h : impl_Missing.f k l0 l1 = some r) :
    Calls Try.prog 34 #[.slice A0 l0.length c0, .slice A1 l1.length c1] w fun e w' => ∃ v0_ : Value, e = .returned (v0_) ∧ Kd.R k95 95 w' w.heap.size (fun _ => True) v0_ r ∧ Below w.heap.size w w' := by
  have hu95 := Try.underlying95
  have hu25 := Try.underlying25
  have HR0 := Aside0.mk hr0
  have HC0 := Aside0.mk hc0
  have HR1 := Aside0.mk hr1
  have HC1 := Aside0.mk hc1
  clear hr0 hc0 hr1 hc1
  unfold impl_Missing.f at h
  rw [Option.bind_eq_some_iff] at h
  obtain ⟨t, hg, h⟩ := h
  have HG := Aside0.mk hg
  clear hg
  by_cases ht : t = true
  · subst ht
    rw [if_pos rfl] at h
    by_cases h1 : l1.length ≤ 100
    · rw [if_pos h1] at h
      have c1a : decide (100 < (l1.length : Int)) = false := decide_eq_false (by omega)
      have c1b : decide (100 < l1.length) = false := decide_eq_false (by omega)
      have H := Aside0.mk h
      have HN1 := Aside0.mk h1
      clear h h1
      go_enter Try.func34, Try.ntmps34
      go_wp2_with (first | (go_at_call 49; (with_reducible refine (impl_GoodLog.calls k _ _ l0 true _ HR0.out HC0.out HG.out).mono ?_); rintro e w1 ⟨rfl, hb1⟩; have HB1 := Aside0.mk hb1; clear hb1))
      go_loopw [20] (fun v20 w' => ∃ i : Nat, i ≤ l1.length ∧ v20 = .int .i64 i ∧ Aside0 (risesV l1 i = true) ∧ Aside0 (Below w.heap.size w w')) (fun v20 _ => l1.length - (intOf v20).toNat)
      case atStart => exact ⟨0, Nat.zero_le _, rfl, ⟨rfl⟩, HB1⟩
      case round =>
        clear HB1
        obtain ⟨i, hi, rfl, HV, HB⟩ := hrel
        have hN1 := HN1.out
        by_cases hlt : i < l1.length
        · have q1 := eq_true (show (i : Int) < l1.length by omega)
          have q2 := eq_true (show (0 : Int) ≤ (i : Int) by omega)
          have hW : wrap64 ((i : Int) + 1) = (i : Int) + 1 := by unfold wrap64; omega
          by_cases h0 : i = 0
          · have p0 : decide ((0 : Int) < (i : Int)) = false := decide_eq_false (by omega)
            have p0b : decide (0 < i) = false := decide_eq_false (by omega)
            have HV2 := Aside0.mk (show risesV l1 (i + 1) = true from by rw [h0]; rfl)
            clear h0
            go_wp2
            repeat (go_quiet (fail); try go_wp2)
            go_roundw
            case rel => exact ⟨i + 1, by omega, by go_num, HV2, ⟨by repeat (first | (with_reducible first | exact HB.out | apply below_alloc | apply pw_below_drewN | apply below_drew1) | exact HB.out)⟩⟩
            case measure => exact measG (by with_reducible first | assumption | rfl) hlt
          · have p0 : decide ((0 : Int) < (i : Int)) = true := decide_eq_true (by omega)
            have p0b : decide (0 < i) = true := decide_eq_true (by omega)
            obtain ⟨j, hj⟩ : ∃ j, i = j + 1 := ⟨i - 1, by omega⟩
            have HJ := Aside0.mk hj
            have hW1 : wrap64 ((i : Int) - 1) = (j : Int) := by unfold wrap64; omega
            have hW1w : IntKind.i64.wrap ((i : Int) - 1) = (j : Int) := (i64_w _).trans hW1
            have q3 := eq_true (show (j : Int) < l1.length by omega)
            have q3b := eq_true (show j < l1.length by omega)
            have q3c := eq_true (show i < l1.length by omega)
            have q4 := eq_true (show (0 : Int) ≤ (j : Int) by omega)
            obtain ⟨ad, e1, hx0, hx1⟩ := at_T25 HR1.out (j : Int) (by omega) (by omega)
            cases e1
            replace hx0 := (HB.out.cell (World.block_lt_of_cell? w _ hx0)).trans hx0
            replace hx1 := (HB.out.cell (World.block_lt_of_cell? w _ hx1)).trans hx1
            obtain ⟨ad2, e2, hy0, hy1⟩ := at_T25 HR1.out (i : Int) (by omega) (by omega)
            obtain rfl : ad = ad2 := (by injection e2)
            replace hy0 := (HB.out.cell (World.block_lt_of_cell? w _ hy0)).trans hy0
            replace hy1 := (HB.out.cell (World.block_lt_of_cell? w _ hy1)).trans hy1
            rw [Int.toNat_natCast] at hx0 hx1 hy0 hy1
            have hP : risesV l1 (i + 1) = (risesV l1 i && decide ((rdW l1 j).f1 < (rdW l1 i).f1)) := by rw [hj]; simp only [risesV, Nat.add_sub_cancel]; rw [decide_eq_false (show ¬ j + 1 = 0 by omega), Bool.false_or]
            have HP := Aside0.mk hP
            clear hj hP h0
            by_cases hge : (rdW l1 i).f1 ≤ (rdW l1 j).f1
            · have hgb : decide ((rdW l1 i).f1 ≤ (rdW l1 j).f1) = true := decide_eq_true hge
              have hbad : ¬ risesV l1 l1.length = true := fun q => by
                have := risesV_le l1 (i + 1) l1.length (by omega) q
                rw [HP.out, Bool.and_eq_true, decide_eq_true_eq] at this
                omega
              have hH := H.out
              rw [if_neg hbad] at hH
              obtain rfl := Option.some.inj hH
              clear hH hge hbad H
              go_wp2
              repeat (go_quiet (fail); try go_wp2)
              go_ret
              exact ⟨_, rfl, Kd.R_nil _ _ _ _ _, (by repeat (first | (with_reducible first | exact HB.out | apply below_alloc | apply pw_below_drewN | apply below_drew1) | exact HB.out))⟩
            · have hgb : decide ((rdW l1 i).f1 ≤ (rdW l1 j).f1) = false := decide_eq_false hge
              have HV2 := Aside0.mk (show risesV l1 (i + 1) = true from by rw [HP.out, HV.out, decide_eq_true (p := (rdW l1 j).f1 < (rdW l1 i).f1) (by omega)]; rfl)
              clear hge
              go_wp2
              repeat (go_quiet (fail); try go_wp2)
              go_roundw
              case rel => exact ⟨i + 1, by omega, by go_num, HV2, ⟨by repeat (first | (with_reducible first | exact HB.out | apply below_alloc | apply pw_below_drewN | apply below_drew1) | exact HB.out)⟩⟩
              case measure => exact measG (by with_reducible first | assumption | rfl) hlt
        · obtain rfl : i = l1.length := by omega
          have hH := H.out
          rw [if_pos HV.out] at hH
          by_cases hN0 : l0.length ≤ 1048576
          · rw [if_pos hN0] at hH
            obtain rfl := Option.some.inj hH
            clear hH H HV
            have HN0 := Aside0.mk hN0
            clear hN0
            go_wp2
            go_loopw [6, 42] (fun v6 v42 w' => ∃ i : Nat, i ≤ l0.length ∧ v42 = .int .i64 i ∧ Aside0 (Kd.R k95 95 w' w.heap.size (fun _ => True) v6 (missV l0 l1 i)) ∧ Aside0 (Below w.heap.size w w')) (fun _ v42 _ => l0.length - (intOf v42).toNat)
            case atStart => exact ⟨0, Nat.zero_le _, rfl, ⟨Kd.R_nil _ _ _ _ _⟩, HB⟩
            case round =>
              clear HB
              obtain ⟨i, hi, rfl, HO, HB⟩ := hrel
              have hN0 := HN0.out
              by_cases hlt : i < l0.length
              · have q1 := eq_true (show (i : Int) < l0.length by omega)
                have hW : wrap64 ((i : Int) + 1) = (i : Int) + 1 := by unfold wrap64; omega
                obtain ⟨ad, e1, hx0, hx1, hx2, hx3, hx4, hx5, hx6, hx7, hx8⟩ := at_T95 HR0.out (i : Int) (by omega) (by omega)
                cases e1
                replace hx0 := (HB.out.cell (World.block_lt_of_cell? w _ hx0)).trans hx0
                replace hx1 := (HB.out.cell (World.block_lt_of_cell? w _ hx1)).trans hx1
                replace hx2 := (HB.out.cell (World.block_lt_of_cell? w _ hx2)).trans hx2
                replace hx3 := (HB.out.cell (World.block_lt_of_cell? w _ hx3)).trans hx3
                replace hx4 := (HB.out.cell (World.block_lt_of_cell? w _ hx4)).trans hx4
                replace hx5 := (HB.out.cell (World.block_lt_of_cell? w _ hx5)).trans hx5
                replace hx6 := (HB.out.cell (World.block_lt_of_cell? w _ hx6)).trans hx6
                replace hx7 := (HB.out.cell (World.block_lt_of_cell? w _ hx7)).trans hx7
                replace hx8 := (HB.out.cell (World.block_lt_of_cell? w _ hx8)).trans hx8
                rw [Int.toNat_natCast] at hx0 hx1 hx2 hx3 hx4 hx5 hx6 hx7 hx8
                have HBK := Aside0.mk (heap_alloc_new wr (.cells (cellsG (rdG l0 i)) 95 (0, 0)))
                have HBA := Aside0.mk (below_alloc HB.out (.cells (cellsG (rdG l0 i)) 95 (0, 0)))
                have HOA := Aside0.mk (Kd.R_alloc HO.out (.cells (cellsG (rdG l0 i)) 95 (0, 0)))
                go_wp2_with (first | (go_at_call 71; refine (idxM A1 c1 l1 (rdG l0 i) wr.heap.size _ HBK.out (Kd.C_below HR1.out HBA.out) HC1.out (by have := HN1.out; omega)).mono ?_; rintro e w2 ⟨rfl, hb⟩; have HB2 := Aside0.mk (below_step HBA.out hb); have HBK2 := Aside0.mk (blk_below HBK.out hb); have HO2 := Aside0.mk (Kd.R_below HOA.out hb); clear hb))
                have hrange := idxV_range l1 (rdG l0 i).f0.f1 l1.length 0
                have HML := Aside0.mk (show (missV l0 l1 i).length ≤ 1048576 from Nat.le_trans (missV_len l0 l1 i) (by omega))
                have hcc0 : w2.cell? ⟨wr.heap.size, 0, none⟩ = some (.int .i64 (rdG l0 i).f0.f0) := (blk_cell HBK2.out 0).trans rfl
                have hcc1 : w2.cell? ⟨wr.heap.size, 1, none⟩ = some (.int .i64 (rdG l0 i).f0.f1) := (blk_cell HBK2.out 1).trans rfl
                have hcc2 : w2.cell? ⟨wr.heap.size, 2, none⟩ = some (.int .i64 (rdG l0 i).f1) := (blk_cell HBK2.out 2).trans rfl
                have hcc3 : w2.cell? ⟨wr.heap.size, 3, none⟩ = some (.int .i64 (rdG l0 i).f2) := (blk_cell HBK2.out 3).trans rfl
                have hcc4 : w2.cell? ⟨wr.heap.size, 4, none⟩ = some (.int .i64 (rdG l0 i).f3) := (blk_cell HBK2.out 4).trans rfl
                have hcc5 : w2.cell? ⟨wr.heap.size, 5, none⟩ = some (.string (rdG l0 i).f4.f0) := (blk_cell HBK2.out 5).trans rfl
                have hcc6 : w2.cell? ⟨wr.heap.size, 6, none⟩ = some (.string (rdG l0 i).f4.f1) := (blk_cell HBK2.out 6).trans rfl
                have hcc7 : w2.cell? ⟨wr.heap.size, 7, none⟩ = some (.string (rdG l0 i).f5) := (blk_cell HBK2.out 7).trans rfl
                have hcc8 : w2.cell? ⟨wr.heap.size, 8, none⟩ = some (.string (rdG l0 i).f6) := (blk_cell HBK2.out 8).trans rfl
                by_cases hneg : idxV l1 (rdG l0 i).f0.f1 l1.length 0 < 0
                · have hnb : decide (idxV l1 (rdG l0 i).f0.f1 l1.length 0 < 0) = true := decide_eq_true hneg
                  have HST := Aside0.mk (show missV l0 l1 (i + 1) = missV l0 l1 i ++ [rdG l0 i] from by simp only [missV]; rw [if_pos (by unfold needV; rw [hnb]; rfl)])
                  clear hneg hrange
                  go_wp2
                  repeat (go_quiet (fail); try go_wp2_with (first | ((with_reducible refine gate_builtin (b := .append) (xs := #[.tmp 62, .tmp 64]) rfl ?_); at_builtin; refine Kd.R_append k95 (w0 := w) w.heap.size rfl (.tmp 62) (.tmp 64) 27 95 (.agg #[(.int .i64 0), (.int .i64 0), (.int .i64 0), (.int .i64 0), (.int .i64 0), (.string ⟨#[]⟩), (.string ⟨#[]⟩), (.string ⟨#[]⟩), (.string ⟨#[]⟩)]) 104 rfl Try.underlying27 info95 rfl (by decide) (by omega) u6 (missV l0 l1 i) (rdG l0 i) [.int .i64 (rdG l0 i).f0.f0, .int .i64 (rdG l0 i).f0.f1, .int .i64 (rdG l0 i).f1, .int .i64 (rdG l0 i).f2, .int .i64 (rdG l0 i).f3, .string (rdG l0 i).f4.f0, .string (rdG l0 i).f4.f1, .string (rdG l0 i).f5, .string (rdG l0 i).f6] (fun _ => True) (fun _ => False) rfl rfl ?aP (fun _ hk => hk.elim) ?aF ?aO ?aB ?aS ?aL ?_; (case aP => exact k95_mkM _ _ _ (rdG l0 i)); (case aB => exact (by repeat (first | (with_reducible first | exact HB2.out | apply below_alloc | apply pw_below_drewN | apply below_drew1) | exact HB2.out))); (case aF => exact (fun _ _ => trivial)); (case aO => exact (by (with_reducible repeat (first | apply Kd.R_alloc | apply Kd.R_drewN | apply Kd.R_drew)); exact HO2.out)); (case aS => exact (below_size (by repeat (first | (with_reducible first | exact HB2.out | apply below_alloc | apply pw_below_drewN | apply below_drew1) | exact HB2.out)))); (case aL => have := HML.out; omega); intro v3 w3 ho hb hg hat; have n0_ := Aside0.mk hb; have n1_ := Aside0.mk ho; clear ho hb hg hat)))
                  go_roundw
                  case rel => exact ⟨i + 1, by omega, by go_num, ⟨by rw [HST.out]; exact n1_.out⟩, n0_⟩
                  case measure => exact measG (by with_reducible first | assumption | rfl) hlt
                · have hnb : decide (idxV l1 (rdG l0 i).f0.f1 l1.length 0 < 0) = false := decide_eq_false hneg
                  have hI : 0 ≤ idxV l1 (rdG l0 i).f0.f1 l1.length 0 ∧ idxV l1 (rdG l0 i).f0.f1 l1.length 0 < (l1.length : Int) := by omega
                  have HND := Aside0.mk (show needV l1 (rdG l0 i) = decide ((rdG l0 i).f0.f0 > (rd_T25 l1 (idxV l1 (rdG l0 i).f0.f1 l1.length 0)).f0) from by unfold needV; rw [hnb]; rfl)
                  clear hneg hrange
                  generalize idxV l1 (rdG l0 i).f0.f1 l1.length 0 = I at hnb hI HND ⊢
                  have q5 := eq_true hI.1
                  have q6 := eq_true hI.2
                  obtain ⟨ad2, e2, hy0, hy1⟩ := at_T25 HR1.out I hI.1 hI.2
                  cases e2
                  replace hy0 := (HB2.out.cell (World.block_lt_of_cell? w _ hy0)).trans hy0
                  replace hy1 := (HB2.out.cell (World.block_lt_of_cell? w _ hy1)).trans hy1
                  clear hI
                  by_cases hgt : (rd_T25 l1 I).f0 < (rdG l0 i).f0.f0
                  · have hgb : decide ((rd_T25 l1 I).f0 < (rdG l0 i).f0.f0) = true := decide_eq_true hgt
                    have HST := Aside0.mk (show missV l0 l1 (i + 1) = missV l0 l1 i ++ [rdG l0 i] from by simp only [missV]; rw [if_pos (by rw [HND.out]; exact hgb)])
                    clear hgt
                    go_wp2
                    repeat (go_quiet (fail); try go_wp2_with (first | ((with_reducible refine gate_builtin (b := .append) (xs := #[.tmp 62, .tmp 64]) rfl ?_); at_builtin; refine Kd.R_append k95 (w0 := w) w.heap.size rfl (.tmp 62) (.tmp 64) 27 95 (.agg #[(.int .i64 0), (.int .i64 0), (.int .i64 0), (.int .i64 0), (.int .i64 0), (.string ⟨#[]⟩), (.string ⟨#[]⟩), (.string ⟨#[]⟩), (.string ⟨#[]⟩)]) 104 rfl Try.underlying27 info95 rfl (by decide) (by omega) u6 (missV l0 l1 i) (rdG l0 i) [.int .i64 (rdG l0 i).f0.f0, .int .i64 (rdG l0 i).f0.f1, .int .i64 (rdG l0 i).f1, .int .i64 (rdG l0 i).f2, .int .i64 (rdG l0 i).f3, .string (rdG l0 i).f4.f0, .string (rdG l0 i).f4.f1, .string (rdG l0 i).f5, .string (rdG l0 i).f6] (fun _ => True) (fun _ => False) rfl rfl ?aP (fun _ hk => hk.elim) ?aF ?aO ?aB ?aS ?aL ?_; (case aP => exact k95_mkM _ _ _ (rdG l0 i)); (case aB => exact (by repeat (first | (with_reducible first | exact HB2.out | apply below_alloc | apply pw_below_drewN | apply below_drew1) | exact HB2.out))); (case aF => exact (fun _ _ => trivial)); (case aO => exact (by (with_reducible repeat (first | apply Kd.R_alloc | apply Kd.R_drewN | apply Kd.R_drew)); exact HO2.out)); (case aS => exact (below_size (by repeat (first | (with_reducible first | exact HB2.out | apply below_alloc | apply pw_below_drewN | apply below_drew1) | exact HB2.out)))); (case aL => have := HML.out; omega); intro v3 w3 ho hb hg hat; have n0_ := Aside0.mk hb; have n1_ := Aside0.mk ho; clear ho hb hg hat)))
                    go_roundw
                    case rel => exact ⟨i + 1, by omega, by go_num, ⟨by rw [HST.out]; exact n1_.out⟩, n0_⟩
                    case measure => exact measG (by with_reducible first | assumption | rfl) hlt
                  · have hgb : decide ((rd_T25 l1 I).f0 < (rdG l0 i).f0.f0) = false := decide_eq_false hgt
                    have HST := Aside0.mk (show missV l0 l1 (i + 1) = missV l0 l1 i from by simp only [missV]; rw [if_neg (by rw [HND.out]; simpa using hgt)])
                    clear hgt
                    go_wp2
                    repeat (go_quiet (fail); try go_wp2)
                    go_roundw
                    case rel => exact ⟨i + 1, by omega, by go_num, ⟨by rw [HST.out]; exact (by (with_reducible repeat (first | apply Kd.R_alloc | apply Kd.R_drewN | apply Kd.R_drew)); exact HO2.out)⟩, ⟨(by repeat (first | (with_reducible first | exact HB2.out | apply below_alloc | apply pw_below_drewN | apply below_drew1) | exact HB2.out))⟩⟩
                    case measure => exact measG (by with_reducible first | assumption | rfl) hlt
              · obtain rfl : i = l0.length := by omega
                go_wp2
                go_ret
                exact ⟨_, rfl, HO.out, HB.out⟩
          · rw [if_neg hN0] at hH; exact absurd hH (by simp)
    · rw [if_neg h1] at h
      obtain rfl := Option.some.inj h
      have c1a : decide (100 < (l1.length : Int)) = true := decide_eq_true (by omega)
      have c1b : decide (100 < l1.length) = true := decide_eq_true (by omega)
      clear h h1
      go_enter Try.func34, Try.ntmps34
      go_wp2_with (first | (go_at_call 49; (with_reducible refine (impl_GoodLog.calls k _ _ l0 true _ HR0.out HC0.out HG.out).mono ?_); rintro e w1 ⟨rfl, hb1⟩; have HB1 := Aside0.mk hb1; clear hb1))
      go_ret
      exact ⟨_, rfl, Kd.R_nil _ _ _ _ _, HB1.out⟩
  · rw [if_neg ht] at h
    obtain rfl := Option.some.inj h
    obtain rfl := Bool.eq_false_iff.mpr ht
    clear h ht
    go_enter Try.func34, Try.ntmps34
    go_wp2_with (first | (go_at_call 49; (with_reducible refine (impl_GoodLog.calls k _ _ l0 false _ HR0.out HC0.out HG.out).mono ?_); rintro e w1 ⟨rfl, hb1⟩; have HB1 := Aside0.mk hb1; clear hb1))
    go_ret
    exact ⟨_, rfl, Kd.R_nil _ _ _ _ _, HB1.out⟩

end Go.Proofs.Ytcgiegkcmofhhab.PFnExactMissing
