-- Written for this claim by a program of this session, which goes by the kit's print and takes contracts proved by hand.
import Derived.Test.YtmnlgdmojbhfcaaPFnExactVerifyx0
import Derived.Test.YtmnlgdmojbhfcaaPFnExactVerifyx3
namespace Go.Proofs.Ytmnlgdmojbhfcaa.PFnExactVerify
open Go.RowKit Go.Proofs.YtmnlgdmojbhfcaaW.PrintWords Go.Proofs.YtmnlgdmojbhfcaaW.PrintLast Go.Proofs.YtmnlgdmojbhfcaaW.PrintMore
attribute [local go_sem] max2_int min2_int max_two min_two max_three min_three max_four min_four   -- for this text's walks alone
set_option linter.unusedVariables false
set_option linter.unusedSimpArgs false

/-! ### impl_Digest: function 65 -/
abbrev M4 : Type := Int × Int × Int × Int
def mixV (a m x b : Int) : Int := Int.tmod (wrap64 (wrap64 (wrap64 (wrap64 (a * m) + wrap64 x) + 1) + b)) 2147483579
def eatV (s : M4) (x : Int) : M4 :=
  (mixV s.1 1103515245 x s.2.1, mixV s.2.1 69069 x s.2.2.1, mixV s.2.2.1 1664525 x s.2.2.2, mixV s.2.2.2 22695477 x (mixV s.1 1103515245 x s.2.1))
def cellsV (s : M4) : Array Value := #[.int .i64 s.1, .int .i64 s.2.1, .int .i64 s.2.2.1, .int .i64 s.2.2.2]
def cellsM : Array Value := #[.int .i64 1103515245, .int .i64 69069, .int .i64 1664525, .int .i64 22695477]
def EatPost (s : M4) (x : Int) (ba : Nat) (w : World) (e : Ending) (w' : World) : Prop :=
  e = .returned (.tuple #[]) ∧ w'.heap[ba]? = some (.cells (cellsV (eatV s x)) 97 (0, 0)) ∧ KeepBut w w' ba none ∧ ∀ base W, base ≤ ba → Below base W w → Below base W w'
set_option maxHeartbeats 8000000 in
set_option maxRecDepth 100000 in
theorem eat (x : Int) (s : M4) (ba bm : Nat) (w : World) (_ : ba ≠ bm)
    (hA : w.heap[ba]? = some (.cells (cellsV s) 97 (0, 0))) (hM : w.heap[bm]? = some (.cells cellsM 97 (0, 0))) :
    Calls Try.prog 74 #[.int .u8 x, .pointer (some ⟨ba, 0, none⟩), .pointer (some ⟨bm, 0, none⟩)] w (EatPost s x ba w) := by
  obtain ⟨a, b, c, d⟩ := s
  have c0 := blk_cell hA 0
  have c1 := blk_cell hA 1
  have c2 := blk_cell hA 2
  have c3 := blk_cell hA 3
  have d0 := blk_cell hM 0
  have d1 := blk_cell hM 1
  have d2 := blk_cell hM 2
  have d3 := blk_cell hM 3
  have fz := blk_frozen hA
  have fm := blk_frozen hM
  simp [cellsV, cellsM] at c0 c1 c2 c3 d0 d1 d2 d3
  have HA := Aside0.mk hA
  clear hA hM
  go_enter Try.func74, Try.ntmps74
  go_wp2
  refine wp_loop_rounds 5 ?_
  iterate 4
    rw [rounds_succ]
    go_wp2
    go_region
    go_wp2
  rw [rounds_succ]
  go_wp2
  go_end0
  refine ⟨rfl, ?_, ((((((KeepBut.refl w ba none).set_ 0 _).set_ 1 _).set_ 2 _).set_ 3 _).trans (KeepBut.of_below (below_drew1 (below_drew1 (below_drew1 (below_drew1 (Below.refl _ _))))) ba none) (Or.inl rfl)), fun base W h0 h => below_drew1 (below_drew1 (below_drew1 (below_drew1 ((((h.setCell h0 _).setCell h0 _).setCell h0 _).setCell h0 _))))⟩
  refine blk_drew (blk_drew (blk_drew (blk_drew ?_)))
  have z := blk_set (blk_set (blk_set (blk_set HA.out 0 (.int .i64 (mixV a 1103515245 x b))) 1 (.int .i64 (mixV b 69069 x c))) 2 (.int .i64 (mixV c 1664525 x d))) 3 (.int .i64 (mixV d 22695477 x (mixV a 1103515245 x b)))
  exact z

def ybytesV (n : Int) : List Int := [n % 256, (n / 256) % 256, (n / 65536) % 256, (n / 16777216) % 256]
def digV (l : List Int) : M4 := (List.replicate 8 0).foldl eatV ((ybytesV (l.length : Int)).foldl eatV (l.foldl eatV (11, 22, 33, 44)))
def outV (s : M4) : List Int := ybytesV s.1 ++ ybytesV s.2.1 ++ ybytesV s.2.2.1 ++ ybytesV s.2.2.2
def impl_Digest.f (l0 : List Int) : Option (List Int) := if (l0.length : Int) > 20000 then some ([] : List Int) else some (outV (digV l0))
theorem foldl_step (l : List Int) (k : Nat) (h : k < l.length) (s : M4) : (l.take (k + 1)).foldl eatV s = eatV ((l.take k).foldl eatV s) (rd l (k : Int)) := by
  rw [List.take_succ_eq_append_getElem h, List.foldl_append]
  unfold rd
  rw [Int.toNat_natCast, List.getD_eq_getElem?_getD, List.getElem?_eq_getElem h]; rfl
theorem rd_zeros (n k : Nat) : rd (List.replicate n (0 : Int)) (k : Int) = 0 := by
  unfold rd
  rw [List.getD_eq_getElem?_getD, Int.toNat_natCast, List.getElem?_replicate]
  split <;> rfl
/-- What holds in every round: the two arrays, and that nothing older has turned. -/
structure In2 (W : World) (s : M4) (w : World) : Prop where
  a : w.heap[W.heap.size]? = some (.cells (cellsV s) 97 (0, 0))
  m : w.heap[W.heap.size + 1]? = some (.cells cellsM 97 (0, 0))
  b : Below W.heap.size W w
theorem In2.step {W w w' : World} {s : M4} {x : Int} {e : Ending} (h : In2 W s w) (hp : EatPost s x W.heap.size w e w') : In2 W (eatV s x) w' :=
  ⟨hp.2.1, hp.2.2.1.blk h.m (by omega) (by simp), hp.2.2.2 _ _ (Nat.le_refl _) h.b⟩
set_option maxHeartbeats 8000000 in
set_option maxRecDepth 100000 in
theorem dig (A0 : Option Addr) (c0 : Nat) (l0 : List Int) (w : World) (hr0 : Kd.C (Kd.int .u8) w A0 l0.length l0) (hc0 : l0.length ≤ c0) (hl : ¬ (l0.length : Int) > 20000) :
    Calls Try.prog 65 #[.slice A0 l0.length c0] w fun e w' => ∃ v0_ : Value, e = .returned (v0_) ∧ Kd.R (Kd.int .u8) 5 w' w.heap.size (fun _ => True) v0_ (outV (digV l0)) ∧ Below w.heap.size w w' := by
  have HR0 := Aside0.mk hr0
  clear hr0
  have b1 : decide (20000 < (l0.length : Int)) = false := decide_eq_false hl
  have b2 : decide (20000 < l0.length) = false := decide_eq_false (by omega)
  have hmf : ∀ (fn : Fn) (first cap : Array Value) (w : World), (Instr.makeFunc fn first cap).run Try.prog w = .ok (.func fn first cap) w := fun _ _ _ _ => rfl
  go_enter Try.func65, Try.ntmps65
  go_wp2
  go_loopw [21] (fun v21 w' => ∃ k : Nat, k ≤ l0.length ∧ v21 = .int .i64 k ∧ Aside0 (In2 w ((l0.take k).foldl eatV (11, 22, 33, 44)) w')) (fun v21 _ => l0.length - (intOf v21).toNat)
  case atStart =>
    refine ⟨0, Nat.zero_le _, rfl, ⟨?_, ?_, ?_⟩⟩
    · exact blk_alloc (heap_alloc_new w (.cells (cellsV (11, 22, 33, 44)) 97)) _
    · have z := heap_alloc_new (w.alloc (.cells (cellsV (11, 22, 33, 44)) 97)) (.cells cellsM 97)
      simpa [cellsM, cellsV] using z
    · exact ((Below.refl _ w).alloc (Nat.le_refl _) _).alloc (by simp) _
  case round =>
    obtain ⟨k, hk, rfl, HI⟩ := hrel
    by_cases hlt : k < l0.length
    · obtain ⟨ad, ead, hx0⟩ := Kd.at_int HR0.out k (by omega) (by omega)
      cases ead
      rw [Int.toNat_natCast] at hx0
      replace hx0 := (HI.out.b.cell (World.block_lt_of_cell? w _ hx0)).trans hx0
      have q := eq_true (show (k : Int) < l0.length by omega)
      go_wp2_with (go_at_call 74; refine (eat _ _ _ _ _ (by omega) HI.out.a HI.out.m).mono ?_; rintro e w1 hp; obtain rfl := hp.1; have HI1 := Aside0.mk (HI.out.step hp); clear hp)
      go_roundw
      case rel => exact ⟨k + 1, by omega, by go_num, by rw [foldl_step _ _ hlt]; exact HI1⟩
      case measure => simp [intOf]; omega
    · obtain rfl : k = l0.length := by omega
      rw [List.take_length] at HI
      have q := decide_eq_false (show ¬ (l0.length : Int) < (l0.length : Int) by omega)
      obtain ⟨t, ht⟩ : ∃ t, t = ybytesV (l0.length : Int) := ⟨_, rfl⟩
      have HT := Aside0.mk ht
      have HY := Aside0.mk (show impl_ybytes.f (l0.length : Int) = some t from by rw [ht]; rfl)
      have tl : t.length ≤ 4 := by rw [ht]; simp [ybytesV]
      clear ht
      go_wp2_with (go_at_call 66; refine (impl_ybytes.calls (l0.length : Int) t _ HY.out).mono ?_; rintro e w1 ⟨v, rfl, ho, hb⟩; have HO := Aside0.mk (Kd.R_lower (Kd.R_mono (Kd.R_newB ho HI.out.a) (fun _ h => h.2)) HI.out.b.size); have HI1 := Aside0.mk (show In2 w (l0.foldl eatV (11, 22, 33, 44)) w1 from ⟨(hb.block _ (blk_lt HI.out.a)).trans HI.out.a, (hb.block _ (blk_lt HI.out.m)).trans HI.out.m, below_step HI.out.b hb⟩); clear ho hb HI; obtain ⟨A1, c1, e1⟩ := Kd.R_slice HO.out; subst e1)
      go_loopw [33] (fun v33 w' => ∃ k : Nat, k ≤ t.length ∧ v33 = .int .i64 k ∧ Aside0 (In2 w ((t.take k).foldl eatV (l0.foldl eatV (11, 22, 33, 44))) w') ∧ Aside0 (Kd.R (Kd.int .u8) 5 w' w.heap.size (fun k_ => k_ ≠ w.heap.size) (.slice A1 t.length c1) t)) (fun v33 _ => t.length - (intOf v33).toNat)
      case atStart => exact ⟨0, Nat.zero_le _, rfl, HI1, HO⟩
      case round =>
        clear HI1 HO
        obtain ⟨k, hk, rfl, HI, HO⟩ := hrel
        by_cases hlt : k < t.length
        · obtain ⟨ad, ead, hx0⟩ := Kd.at_int (Kd.R_reads' HO.out).2.2 k (by omega) (by omega)
          cases ead
          rw [Int.toNat_natCast] at hx0
          have q := eq_true (show (k : Int) < t.length by omega)
          go_wp2_with (go_at_call 74; refine (eat _ _ _ _ _ (by omega) HI.out.a HI.out.m).mono ?_; rintro e w1 hp; obtain rfl := hp.1; have HI1 := Aside0.mk (HI.out.step hp); have HO1 := Aside0.mk (Kd.R_keep HO.out hp.2.2.1 (fun _ h => h)); clear hp)
          go_roundw
          case rel => exact ⟨k + 1, by omega, by go_num, by rw [foldl_step _ _ hlt]; exact HI1, HO1⟩
          case measure => simp [intOf]; omega
        · obtain rfl : k = t.length := by omega
          rw [List.take_length] at HI
          have q := decide_eq_false (show ¬ (t.length : Int) < (t.length : Int) by omega)
          go_wp2
          go_loopw [41] (fun v41 w' => ∃ k : Nat, k ≤ 8 ∧ v41 = .int .i64 k ∧ Aside0 (In2 w (((List.replicate 8 (0 : Int)).take k).foldl eatV (t.foldl eatV (l0.foldl eatV (11, 22, 33, 44)))) w')) (fun v41 _ => 8 - (intOf v41).toNat)
          case atStart => exact ⟨0, Nat.zero_le _, rfl, HI⟩
          case round =>
            clear HI HO
            obtain ⟨k, hk, rfl, HI⟩ := hrel
            by_cases hlt : k < 8
            · go_wp2_with (go_at_call 74; refine (eat _ _ _ _ _ (by omega) HI.out.a HI.out.m).mono ?_; rintro e w1 hp; obtain rfl := hp.1; have HI1 := Aside0.mk (HI.out.step hp); clear hp)
              go_roundw
              case rel => exact ⟨k + 1, by omega, by go_num, by rw [foldl_step _ _ (by simpa using hlt)]; rw [rd_zeros]; exact HI1⟩
              case measure => simp [intOf]; omega
            · obtain rfl : k = 8 := by omega
              rw [List.take_of_length_le (by simp)] at HI
              have HI2 := Aside0.mk (show In2 w (digV l0) wr from by unfold digV; rw [← HT.out]; exact HI.out)
              clear HI
              have HB := Aside0.mk HI2.out.b
              have HA := Aside0.mk HI2.out.a
              clear HI2
              generalize hs : digV l0 = s at *
              have HS := Aside0.mk hs
              clear hs
              obtain ⟨a, b, c, d⟩ := s
              go_wp2_with (refine wpList_load_row rfl 97 _ rfl _ rfl _ _ _ _ HA.out Try.underlying97 rfl (by kernel_rfl) ?_)
              have HO := Aside0.mk (Kd.R_nil (Kd.int .u8) 5 wr w.heap.size (fun _ => True))
              clear HA
              unfold cellsV
              have i0 : ∀ w, (Instr.index 97 (.agg #[.int .i64 a, .int .i64 b, .int .i64 c, .int .i64 d]) (.int .i64 0)).run Try.prog w = .ok (.int .i64 a) w := fun _ => by kernel_rfl
              have i1 : ∀ w, (Instr.index 97 (.agg #[.int .i64 a, .int .i64 b, .int .i64 c, .int .i64 d]) (.int .i64 1)).run Try.prog w = .ok (.int .i64 b) w := fun _ => by kernel_rfl
              have i2 : ∀ w, (Instr.index 97 (.agg #[.int .i64 a, .int .i64 b, .int .i64 c, .int .i64 d]) (.int .i64 2)).run Try.prog w = .ok (.int .i64 c) w := fun _ => by kernel_rfl
              have i3 : ∀ w, (Instr.index 97 (.agg #[.int .i64 a, .int .i64 b, .int .i64 c, .int .i64 d]) (.int .i64 3)).run Try.prog w = .ok (.int .i64 d) w := fun _ => by kernel_rfl
              refine wp_loop_rounds 5 ?_
              iterate 4
                rw [rounds_succ]
                go_wp2_with (first
                  | (go_at_call 66; refine (impl_ybytes.calls _ _ _ rfl).mono ?_; rintro e w1 ⟨v, rfl, ho, hb⟩; obtain ⟨A1, c1, e1⟩ := Kd.R_slice ho; subst e1; have HN := Aside0.mk (Kd.R_lower (Kd.R_new' ho (Kd.R_lt HO.out)) (below_size HB.out)); have n0 := Aside0.mk (Kd.R_elder' HO.out (Kd.R_base ho) hb); have n1 := Aside0.mk (below_step HB.out hb); clear HO HB ho hb; have HO := n0; have HB := n1; clear n0 n1)
                  | ((with_reducible refine gate_builtin (b := .append) (xs := #[.tmp 50, .tmp 52]) rfl ?_); at_builtin; refine Kd.R_append_rows (Kd.int .u8) (w0 := w) w.heap.size rfl (.tmp 50) (.tmp 52) 46 5 (.int .u8 0) 1 rfl Try.underlying46 info5 rfl (by decide) (by omega) _ _ _ _ _ _ _ (fun _ => False) rfl rfl (Kd.R_mono HO.out (fun _ hk => hk.2)) (Kd.R_reads' HN.out).2.2 (fun _ _ h => h) (fun _ h => h.elim) (fun k_ hk => Kd.fresh' (Kd.R_lt HN.out) k_ hk) HB.out (below_size HB.out) ?aL ?_; (case aL => simp); intro v135 w30 ho hb hg hat; have n0 := Aside0.mk (Kd.R_mono (ok' := fun _ => True) ho (fun _ _ => trivial)); have n1 := Aside0.mk hb; clear HO HB HN ho hb hg hat; have HO := n0; have HB := n1; clear n0 n1))
              rw [rounds_succ]
              go_wp2
              go_ret
              refine ⟨_, rfl, ?_, HB.out⟩
              rw [HS.out]
              exact HO.out
theorem impl_Digest.calls (A0 : Option Addr) (c0 : Nat) (l0 : List Int) (r : List Int) (w : World) (hr0 : Kd.C (Kd.int .u8) w A0 l0.length l0) (hc0 : l0.length ≤ c0) (h : impl_Digest.f l0 = some r) :
    Calls Try.prog 65 #[.slice A0 l0.length c0] w fun e w' => ∃ v0_ : Value, e = .returned (v0_) ∧ Kd.R (Kd.int .u8) 5 w' w.heap.size (fun _ => True) v0_ r ∧ Below w.heap.size w w' := by
  unfold impl_Digest.f at h
  by_cases c2 : (l0.length : Int) > 20000
  · rw [if_pos c2] at h
    obtain rfl := Option.some.inj h
    have c2b0 : decide (20000 < (l0.length : Int)) = true := decide_eq_true c2
    have c2b1 : decide (20000 < l0.length) = true := decide_eq_true (by omega)
    clear c2 h hr0
    go_enter Try.func65, Try.ntmps65
    go_wp2
    go_ret
    exact ⟨_, rfl, Kd.R_nil _ _ _ _ _, Below.refl _ _⟩
  · rw [if_neg c2] at h
    obtain rfl := Option.some.inj h
    exact dig A0 c0 l0 w hr0 hc0 c2

/-! ### impl_ychallenge: function 52 -/
def impl_ychallenge.f (a0 : Int) (l1 : List Int) : Option (Int) := (impl_ybytes.f a0).bind fun t168 => ((impl_Digest.f l1).bind fun t171 => (if t168.length + t171.length < 140737488355328 then ((impl_Digest.f (t168 ++ t171)).bind fun t177 => ((impl_ynumber.f t177).bind fun t180 => (some (Int.tmod t180 1073741789)))) else (none)))
set_option maxHeartbeats 8000000 in
set_option maxRecDepth 100000 in
theorem impl_ychallenge.calls (a0 : Int) (A1 : Option Addr) (c1 : Nat) (l1 : List Int) (r : Int) (w : World) (hr1 : Kd.C (Kd.int .u8) w A1 l1.length l1) (hc1 : l1.length ≤ c1) (h : impl_ychallenge.f a0 l1 = some r) :
    Calls Try.prog 52 #[.int .i64 a0, .slice A1 l1.length c1] w fun e w' => e = .returned (.int .i64 r) ∧ Below w.heap.size w w' := by
  have HR1 := Aside0.mk hr1
  have HC1 := Aside0.mk hc1
  clear hr1 hc1
  have HB := Aside0.mk (Below.refl w.heap.size w)
  have H : ((impl_ybytes.f a0).bind fun t168 => ((impl_Digest.f l1).bind fun t171 => (if t168.length + t171.length < 140737488355328 then ((impl_Digest.f (t168 ++ t171)).bind fun t177 => ((impl_ynumber.f t177).bind fun t180 => (some (Int.tmod t180 1073741789)))) else (none)))) = some r := h
  clear h
  replace H := Option.bind_eq_some_iff.mp H
  obtain ⟨t168, A30, H⟩ := H
  replace H : ((impl_Digest.f l1).bind fun t171 => (if t168.length + t171.length < 140737488355328 then ((impl_Digest.f (t168 ++ t171)).bind fun t177 => ((impl_ynumber.f t177).bind fun t180 => (some (Int.tmod t180 1073741789)))) else (none))) = some r := H
  have A3 := Aside0.mk A30
  clear A30
  replace H := Option.bind_eq_some_iff.mp H
  obtain ⟨t171, A40, H⟩ := H
  replace H : (if t168.length + t171.length < 140737488355328 then ((impl_Digest.f (t168 ++ t171)).bind fun t177 => ((impl_ynumber.f t177).bind fun t180 => (some (Int.tmod t180 1073741789)))) else (none)) = some r := H
  have A4 := Aside0.mk A40
  clear A40
  by_cases c5 : t168.length + t171.length < 140737488355328
  · rw [if_pos c5] at H
    have LMc5 := Aside0.mk c5
    clear c5
    obtain ⟨y174, hy174⟩ : ∃ y_ : List Int, y_ = (t168 ++ t171) := ⟨_, rfl⟩
    replace H : ((impl_Digest.f y174).bind fun t177 => ((impl_ynumber.f t177).bind fun t180 => (some (Int.tmod t180 1073741789)))) = some r := by first | (rw [hy174]; with_reducible exact H) | (have H2_ := (Option.bind_some _ _).symm.trans H; rw [hy174]; with_reducible exact H2_) | (have H2_ := (Option.bind_some _ _).symm.trans H; with_reducible exact H2_) | with_reducible exact H | (rw [hy174]; exact H) | exact H
    have Ny174 := Aside0.mk hy174
    clear hy174
    replace H := Option.bind_eq_some_iff.mp H
    obtain ⟨t177, A60, H⟩ := H
    replace H : ((impl_ynumber.f t177).bind fun t180 => (some (Int.tmod t180 1073741789))) = some r := H
    have A6 := Aside0.mk A60
    clear A60
    replace H := Option.bind_eq_some_iff.mp H
    obtain ⟨t180, A70, H⟩ := H
    replace H : (some (Int.tmod t180 1073741789)) = some r := H
    have A7 := Aside0.mk A70
    clear A70
    obtain rfl := Option.some.inj H
    go_enter Try.func52, Try.ntmps52
    go_wp2_with (first | ((with_reducible refine gate_callee (f := 66) rfl ?_); refine goesL_ (some 6) rfl rfl Try.func66 (by kernel_rfl) rfl #[.int .i64 a0] rfl (by (try simp only [List.map_toArray, List.map_cons, List.map_nil]); first | done | rfl | (simp only [List.length_drop, List.length_take]; rfl)) ?_; (with_reducible refine (impl_ybytes.calls a0 t168 _ A3.out).mono ?_); rintro e w8 ⟨v169, rfl, ho0, hb⟩; refine ⟨_, rfl, ?_⟩; have n0_ := Aside0.mk (Kd.R_lower ho0 (below_size (by repeat (first | (with_reducible first | exact HB.out | apply below_alloc | apply pw_below_drewN | apply below_drew1) | exact HB.out)))); have n1_ := Aside0.mk (below_step (by repeat (first | (with_reducible first | exact HB.out | apply below_alloc | apply pw_below_drewN | apply below_drew1) | exact HB.out)) hb); clear HB; have HO170 := n0_; have HB := n1_; clear n0_ n1_; (try clear hb); (try clear hb2); (try clear hk); (try clear hi); (try clear ho0)) | ((with_reducible refine gate_callee (f := 65) rfl ?_); refine goesL_ (some 8) rfl rfl Try.func65 (by kernel_rfl) rfl #[.slice A1 l1.length c1] rfl (by (try simp only [List.map_toArray, List.map_cons, List.map_nil]); first | done | rfl | (simp only [List.length_drop, List.length_take]; rfl)) ?_; (with_reducible refine (impl_Digest.calls _ _ l1 t171 _ ?side1 ?side2 A4.out).mono ?_); (case side1 => repeat (first | exact (Kd.C_below HR1.out HB.out) | (with_reducible refine Kd.C_alloc ?_ _) | (with_reducible refine Kd.C_drewN ?_ _) | (with_reducible refine Kd.C_drew ?_))); (case side2 => exact HC1.out); rintro e w9 ⟨v172, rfl, ho0, hb⟩; refine ⟨_, rfl, ?_⟩; have n0_ := Aside0.mk (Kd.R_elder' (by (with_reducible repeat (first | apply Kd.R_alloc | apply Kd.R_drewN | apply Kd.R_drew)); exact HO170.out) (Kd.R_base ho0) hb); have n1_ := Aside0.mk (Kd.R_lower (Kd.R_new' ho0 (Kd.R_lt (by (with_reducible repeat (first | apply Kd.R_alloc | apply Kd.R_drewN | apply Kd.R_drew)); exact HO170.out))) (below_size (by repeat (first | (with_reducible first | exact HB.out | apply below_alloc | apply pw_below_drewN | apply below_drew1) | exact HB.out)))); have n2_ := Aside0.mk (below_step (by repeat (first | (with_reducible first | exact HB.out | apply below_alloc | apply pw_below_drewN | apply below_drew1) | exact HB.out)) hb); clear HO170; clear HB; have HO170 := n0_; have HO173 := n1_; have HB := n2_; clear n0_ n1_ n2_; (try clear hb); (try clear hb2); (try clear hk); (try clear hi); (try clear ho0); obtain ⟨Ao11, co11, eo11⟩ := Kd.R_slice HO173.out; subst eo11) | ((with_reducible refine gate_builtin (b := .append) (xs := #[.tmp 6, .tmp 8]) rfl ?_); at_builtin; refine Kd.R_append_rows (Kd.int .u8) (w0 := w) w.heap.size rfl (.tmp 6) (.tmp 8) 46 5 (.int .u8 0) 1 rfl Try.underlying46 info5 rfl (by decide) (by omega) v169 t168 t171 _ _ _ (fun k_ => some k_ ≠ (.slice Ao11 t171.length co11 : Value).ownBlock) (fun _ => False) rfl rfl ?aO ?aR (fun _ _ h => h) (fun _ h => h.elim) ?aF ?aB ?aS ?aL ?_; (case aR => repeat (first | exact (Kd.R_reads' HO173.out).2.2 | (with_reducible refine Kd.C_alloc ?_ _) | (with_reducible refine Kd.C_drewN ?_ _) | (with_reducible refine Kd.C_drew ?_))); (case aB => exact (by repeat (first | (with_reducible first | exact HB.out | apply below_alloc | apply pw_below_drewN | apply below_drew1) | exact HB.out))); (case aF => exact (fun k_ hk => Kd.fresh' (Kd.R_lt (by (with_reducible repeat (first | apply Kd.R_alloc | apply Kd.R_drewN | apply Kd.R_drew)); exact HO173.out)) k_ hk)); (case aO => exact (by (with_reducible repeat (first | apply Kd.R_alloc | apply Kd.R_drewN | apply Kd.R_drew)); exact Kd.R_mono HO170.out (fun _ hk => hk.2))); (case aS => exact (below_size (by repeat (first | (with_reducible first | exact HB.out | apply below_alloc | apply pw_below_drewN | apply below_drew1) | exact HB.out)))); (case aL => have := LMc5.out; omega); intro v175 w10 ho hb hg hat; rw [← Ny174.out] at ho; have n0_ := Aside0.mk (Kd.R_after (ok := (fun _ => True)) (by (with_reducible repeat (first | apply Kd.R_alloc | apply Kd.R_drewN | apply Kd.R_drew)); exact HO173.out) hg hat); have n1_ := Aside0.mk (hb); have n2_ := Aside0.mk (ho); clear HO173; clear HB; clear HO170; have HO173 := n0_; have HB := n1_; have HO176 := n2_; clear n0_ n1_ n2_; clear ho hb hg hat; obtain ⟨Ao12, co12, eo12⟩ := Kd.R_slice HO176.out; subst eo12) | ((with_reducible refine gate_callee (f := 65) rfl ?_); refine goesL_ (some 10) rfl rfl Try.func65 (by kernel_rfl) rfl #[.slice Ao12 y174.length co12] rfl (by (try simp only [List.map_toArray, List.map_cons, List.map_nil]); first | done | rfl | (simp only [List.length_drop, List.length_take]; rfl)) ?_; (with_reducible refine (impl_Digest.calls _ _ y174 t177 _ ?side1 ?side2 A6.out).mono ?_); (case side1 => repeat (first | exact (Kd.R_reads' HO176.out).2.2 | (with_reducible refine Kd.C_alloc ?_ _) | (with_reducible refine Kd.C_drewN ?_ _) | (with_reducible refine Kd.C_drew ?_))); (case side2 => exact (Kd.R_reads' HO176.out).2.1); rintro e w13 ⟨v178, rfl, ho0, hb⟩; refine ⟨_, rfl, ?_⟩; have n0_ := Aside0.mk (Kd.R_elder' (by (with_reducible repeat (first | apply Kd.R_alloc | apply Kd.R_drewN | apply Kd.R_drew)); exact HO173.out) (Kd.R_base ho0) hb); have n1_ := Aside0.mk (Kd.R_elder' (by (with_reducible repeat (first | apply Kd.R_alloc | apply Kd.R_drewN | apply Kd.R_drew)); exact HO176.out) (Kd.R_base ho0) hb); have n2_ := Aside0.mk (Kd.R_lower (Kd.R_new' (Kd.R_new' ho0 (Kd.R_lt (by (with_reducible repeat (first | apply Kd.R_alloc | apply Kd.R_drewN | apply Kd.R_drew)); exact HO173.out))) (Kd.R_lt (by (with_reducible repeat (first | apply Kd.R_alloc | apply Kd.R_drewN | apply Kd.R_drew)); exact HO176.out))) (below_size (by repeat (first | (with_reducible first | exact HB.out | apply below_alloc | apply pw_below_drewN | apply below_drew1) | exact HB.out)))); have n3_ := Aside0.mk (below_step (by repeat (first | (with_reducible first | exact HB.out | apply below_alloc | apply pw_below_drewN | apply below_drew1) | exact HB.out)) hb); clear HO173; clear HO176; clear HB; have HO173 := n0_; have HO176 := n1_; have HO179 := n2_; have HB := n3_; clear n0_ n1_ n2_ n3_; (try clear hb); (try clear hb2); (try clear hk); (try clear hi); (try clear ho0); obtain ⟨Ao14, co14, eo14⟩ := Kd.R_slice HO179.out; subst eo14) | ((with_reducible refine gate_callee (f := 64) rfl ?_); refine goesL_ (some 11) rfl rfl Try.func64 (by kernel_rfl) rfl #[.slice Ao14 t177.length co14] rfl (by (try simp only [List.map_toArray, List.map_cons, List.map_nil]); first | done | rfl | (simp only [List.length_drop, List.length_take]; rfl)) ?_; (with_reducible refine (impl_ynumber.calls _ _ t177 t180 _ ?side1 ?side2 A7.out).mono ?_); (case side1 => repeat (first | exact (Kd.R_reads' HO179.out).2.2 | (with_reducible refine Kd.C_alloc ?_ _) | (with_reducible refine Kd.C_drewN ?_ _) | (with_reducible refine Kd.C_drew ?_))); (case side2 => exact (Kd.R_reads' HO179.out).2.1); rintro e w' ⟨rfl, ⟨nd, rfl⟩⟩; refine ⟨_, rfl, ?_⟩))
    go_ret
    exact ⟨by first | rfl | (simp [errW_none, errW_some] <;> rfl) | (simp [*, errW_none, errW_some] <;> rfl), by repeat (first | (with_reducible first | exact HB.out | apply below_alloc | apply pw_below_drewN | apply below_drew1) | exact HB.out)⟩
  · rw [if_neg c5] at H
    exact absurd H (by simp)

/-! ### impl_Verify: function 28 -/
def impl_Verify.j0 : Nat → Int → List Int → Bool → Int → Int → Option (Bool)
  | 0, _, _, _, _, _ => none
  | k + 1, x0, x1, x42, x182000, x182001 => if x42 = true then (some false) else ((impl_ypow.f k 4 x182001 2147483579).bind fun t183 => ((impl_ychallenge.f x182000 x1).bind fun t184 => ((impl_ypow.f k x0 t184 2147483579).bind fun t185 => (some (t183 == (Int.tmod (wrap64 (x182000 * t185)) 2147483579))))))
def impl_Verify.f (k : Nat) (a0 : Int) (l1 : List Int) (a2_0 : Int) (a2_1 : Int) : Option (Bool) := if (l1.length : Int) > 20000 then (impl_Verify.j0 k a0 l1 true a2_0 a2_1) else (if a0 < 2 then (impl_Verify.j0 k a0 l1 true a2_0 a2_1) else (if a0 ≥ 2147483579 then (impl_Verify.j0 k a0 l1 true a2_0 a2_1) else ((impl_ypow.f k a0 1073741789 2147483579).bind fun t182 => (if t182 = 1 then (if a2_0 < 1 then (impl_Verify.j0 k a0 l1 true a2_0 a2_1) else (if a2_0 ≥ 2147483579 then (impl_Verify.j0 k a0 l1 true a2_0 a2_1) else (if a2_1 < 0 then (impl_Verify.j0 k a0 l1 true a2_0 a2_1) else (impl_Verify.j0 k a0 l1 (decide (a2_1 ≥ 1073741789)) a2_0 a2_1)))) else (impl_Verify.j0 k a0 l1 true a2_0 a2_1)))))
theorem impl_Verify.mono_l : ∀ k, (∀ y0 y1 y2 y3 y4, LeO (impl_Verify.j0 k y0 y1 y2 y3 y4) (impl_Verify.j0 (k + 1) y0 y1 y2 y3 y4))
  | 0 => fun _ _ _ _ _ r h => by simp [impl_Verify.j0] at h
  | k + 1 => by
    have ih0 := impl_Verify.mono_l k
    · intro y0 y1 y2 y3 y4
      unfold impl_Verify.j0
      repeat' first
      | (with_reducible exact ih0 _ _ _ _ _)
      | (with_reducible exact impl_ypow.mono _ _ _ _)
      | (with_reducible exact LeO.refl _)
      | (with_reducible exact LeO.none _)
      | (with_reducible refine LeO.ite ?_ ?_)
      | (with_reducible refine LeO.bind ?_ (fun _ => ?_))
      | exact ih0 _ _ _ _ _
      | exact impl_ypow.mono _ _ _ _
      | exact LeO.none _
      | refine LeO.ite ?_ ?_
      | refine LeO.bind ?_ (fun _ => ?_)
theorem impl_Verify.mono : ∀ a0 a1 a2 a3 k, LeO (impl_Verify.f k a0 a1 a2 a3) (impl_Verify.f (k + 1) a0 a1 a2 a3) := by
  intro a0 a1 a2 a3 k
  have ih0 := impl_Verify.mono_l k
  unfold impl_Verify.f
  repeat' first
      | (with_reducible exact ih0 _ _ _ _ _)
      | (with_reducible exact impl_ypow.mono _ _ _ _)
      | (with_reducible exact LeO.refl _)
      | (with_reducible exact LeO.none _)
      | (with_reducible refine LeO.ite ?_ ?_)
      | (with_reducible refine LeO.bind ?_ (fun _ => ?_))
      | exact ih0 _ _ _ _ _
      | exact impl_ypow.mono _ _ _ _
      | exact LeO.none _
      | refine LeO.ite ?_ ?_
      | refine LeO.bind ?_ (fun _ => ?_)
def impl_Verify.T3 : Bool × List (List Nat × List Nat) := (true, [([], []), ([0], [0]), ([1], [1]), ([], []), ([3], [3]), ([], []), ([], []), ([6], [6]), ([], []), ([7, 8, 2], [7, 8]), ([5, 9, 9], [5, 9]), ([4, 10], [4, 10]), ([11], [11]), ([2, 12], [2, 12]), ([13, 10, 0, 1, 2, 3, 4, 5, 6, 7, 8, 9, 10, 11, 12, 13], [13])])
def impl_Verify.B3 : List Nat := [0, 1, 3, 0, 8, 0, 0, 64, 0, 455, 999, 2047, 4095, 8191, 16383]
theorem impl_Verify.tab3 : rtab .any (opsOf Try.f28 3) = impl_Verify.T3 := by kernel_rfl
theorem impl_Verify.bits3 : waitsOk impl_Verify.T3.2 impl_Verify.B3 = true := by kernel_rfl
set_option maxHeartbeats 8000000 in
set_option maxRecDepth 100000 in
theorem impl_Verify.calls (k : Nat) (a0 : Int) (A1 : Option Addr) (c1 : Nat) (l1 : List Int) (a2_0 : Int) (a2_1 : Int) (r : Bool) (w : World) (hr1 : Kd.C (Kd.int .u8) w A1 l1.length l1) (hc1 : l1.length ≤ c1) (h : impl_Verify.f k a0 l1 a2_0 a2_1 = some r) :
    Calls Try.prog 28 #[.int .i64 a0, .slice A1 l1.length c1, .agg #[.int .i64 a2_0, .int .i64 a2_1]] w fun e w' => e = .returned (.bool r) ∧ Below w.heap.size w w' := by
  have hu51 := Try.underlying51
  have HR1 := Aside0.mk hr1
  have HC1 := Aside0.mk hc1
  clear hr1 hc1
  have HB := Aside0.mk (Below.refl w.heap.size w)
  have H : (if (l1.length : Int) > 20000 then (impl_Verify.j0 k a0 l1 true a2_0 a2_1) else (if a0 < 2 then (impl_Verify.j0 k a0 l1 true a2_0 a2_1) else (if a0 ≥ 2147483579 then (impl_Verify.j0 k a0 l1 true a2_0 a2_1) else ((impl_ypow.f k a0 1073741789 2147483579).bind fun t182 => (if t182 = 1 then (if a2_0 < 1 then (impl_Verify.j0 k a0 l1 true a2_0 a2_1) else (if a2_0 ≥ 2147483579 then (impl_Verify.j0 k a0 l1 true a2_0 a2_1) else (if a2_1 < 0 then (impl_Verify.j0 k a0 l1 true a2_0 a2_1) else (impl_Verify.j0 k a0 l1 (decide (a2_1 ≥ 1073741789)) a2_0 a2_1)))) else (impl_Verify.j0 k a0 l1 true a2_0 a2_1)))))) = some r := h
  clear h
  have HC4 := Aside0.mk H
  clear H
  go_enter Try.func28, Try.ntmps28
  go_upto_region 1 with (first | ((with_reducible refine gate_dst (N := 5) rfl ?_); refine box_event ?hg (N := 5) ?hd (cs := #[.int .i64 a2_0, .int .i64 a2_1]) (t := 51) ?hr ?_; (case hd => rfl); (case hg => rfl); (case hr => first | (go_simp; done) | (go_simp; rfl)); intro gb181 hg w5 hbox hb; have n0_ := Aside0.mk (below_step (by repeat (first | (with_reducible first | exact HB.out | apply below_alloc | apply pw_below_drewN | apply below_drew1) | exact HB.out)) hb); have n1_ := Aside0.mk (hbox); have n2_ := Aside0.mk ((by rw [hg]; exact (below_size (by repeat (first | (with_reducible first | exact HB.out | apply below_alloc | apply pw_below_drewN | apply below_drew1) | exact HB.out))) : w.heap.size ≤ gb181)); have n3_ := Aside0.mk ((by rw [hg]; exact (below_size (by repeat (first | (with_reducible first | exact HB.out | apply below_alloc | apply pw_below_drewN | apply below_drew1) | exact HB.out))) : w.heap.size ≤ gb181)); clear HB; have HB := n0_; have BK181 := n1_; have GW181 := n2_; have GE181 := n3_; clear n0_ n1_ n2_ n3_; clear hb hbox hg))
  (try simp only [Act.put, List.setIfInBounds_toArray, List.set_cons_zero, List.set_cons_succ])
  go_cut [42] (fun v42 wc => ∃ (kq : Nat) (x42_3 : Bool), v42 = .bool x42_3 ∧ Aside0 (impl_Verify.j0 kq a0 l1 x42_3 a2_0 a2_1 = some r) ∧ Aside0 (kq ≤ k) ∧ Aside0 (wc.heap[gb181]? = some (.cells #[.int .i64 a2_0, .int .i64 a2_1] 51 (0, 0))) ∧ Aside0 (Below w.heap.size w wc))
  case first =>
    have H := HC4.out
    clear HC4
    by_cases c6 : (l1.length : Int) > 20000
    · rw [if_pos c6] at H
      have c6b0 : decide (20000 < (l1.length : Int)) = true := decide_eq_true c6
      have c6b1 : decide (20000 < l1.length) = true := decide_eq_true (by omega)
      clear c6
      (first | rw [c6b0] | (simp only [i64_w, i32_w]; rw [c6b0]) | skip)
      have H' := Aside0.mk H
      clear H
      go_wp2
      go_meet
      case rel => exact ⟨_, (true), (by first | rfl | (simp; done) | (simp [*]; done)), H', ⟨by first | omega | exact Nat.le_refl _⟩, ⟨by (with_reducible repeat (first | refine blk_drewN ?_ _ | refine blk_drew ?_ | refine blk_alloc ?_ _)); exact BK181.out⟩, ⟨by repeat (first | (with_reducible first | exact HB.out | apply below_alloc | apply pw_below_drewN | apply below_drew1 | refine below_set ?_ GE181.out) | exact HB.out)⟩⟩
    · rw [if_neg c6] at H
      have c6b0 : decide (20000 < (l1.length : Int)) = false := decide_eq_false c6
      have c6b1 : decide (20000 < l1.length) = false := decide_eq_false (by omega)
      clear c6
      (first | rw [c6b0] | (simp only [i64_w, i32_w]; rw [c6b0]) | skip)
      by_cases c7 : a0 < 2
      · rw [if_pos c7] at H
        have c7b0 : decide (a0 < 2) = true := decide_eq_true c7
        clear c7
        have H' := Aside0.mk H
        clear H
        go_wp2
        go_meet
        case rel => exact ⟨_, (true), (by first | rfl | (simp; done) | (simp [*]; done)), H', ⟨by first | omega | exact Nat.le_refl _⟩, ⟨by (with_reducible repeat (first | refine blk_drewN ?_ _ | refine blk_drew ?_ | refine blk_alloc ?_ _)); exact BK181.out⟩, ⟨by repeat (first | (with_reducible first | exact HB.out | apply below_alloc | apply pw_below_drewN | apply below_drew1 | refine below_set ?_ GE181.out) | exact HB.out)⟩⟩
      · rw [if_neg c7] at H
        have c7b0 : decide (a0 < 2) = false := decide_eq_false c7
        clear c7
        by_cases c8 : a0 ≥ 2147483579
        · rw [if_pos c8] at H
          have c8b0 : decide (2147483579 ≤ a0) = true := decide_eq_true c8
          clear c8
          have H' := Aside0.mk H
          clear H
          go_wp2
          go_meet
          case rel => exact ⟨_, (true), (by first | rfl | (simp; done) | (simp [*]; done)), H', ⟨by first | omega | exact Nat.le_refl _⟩, ⟨by (with_reducible repeat (first | refine blk_drewN ?_ _ | refine blk_drew ?_ | refine blk_alloc ?_ _)); exact BK181.out⟩, ⟨by repeat (first | (with_reducible first | exact HB.out | apply below_alloc | apply pw_below_drewN | apply below_drew1 | refine below_set ?_ GE181.out) | exact HB.out)⟩⟩
        · rw [if_neg c8] at H
          have c8b0 : decide (2147483579 ≤ a0) = false := decide_eq_false c8
          clear c8
          replace H := Option.bind_eq_some_iff.mp H
          obtain ⟨t182, A90, H⟩ := H
          replace H : (if t182 = 1 then (if a2_0 < 1 then (impl_Verify.j0 k a0 l1 true a2_0 a2_1) else (if a2_0 ≥ 2147483579 then (impl_Verify.j0 k a0 l1 true a2_0 a2_1) else (if a2_1 < 0 then (impl_Verify.j0 k a0 l1 true a2_0 a2_1) else (impl_Verify.j0 k a0 l1 (decide (a2_1 ≥ 1073741789)) a2_0 a2_1)))) else (impl_Verify.j0 k a0 l1 true a2_0 a2_1)) = some r := H
          have A9 := Aside0.mk A90
          clear A90
          by_cases c10 : t182 = 1
          · rw [if_pos c10] at H
            have c10b0 : (t182 == 1) = true := beq_iff_eq.mpr c10
            have c10b1 : (t182 != 1) = false := bne_eq_false_iff_eq.mpr c10
            clear c10
            by_cases c11 : a2_0 < 1
            · rw [if_pos c11] at H
              have c11b0 : decide (a2_0 < 1) = true := decide_eq_true c11
              clear c11
              have H' := Aside0.mk H
              clear H
              go_wp2_with (first | (go_at_call 36; (with_reducible refine (impl_ypow.calls k a0 1073741789 2147483579 t182 _ A9.out).mono ?_); rintro e w' ⟨rfl, ⟨nd, rfl⟩⟩; have hcz12_0 : w5.cell? ⟨gb181, 0, none⟩ = some (.int .i64 a2_0) := (blk_cell BK181.out 0).trans rfl; have hcz12_1 : w5.cell? ⟨gb181, 1, none⟩ = some (.int .i64 a2_1) := (blk_cell BK181.out 1).trans rfl; have hfz12_0 := blk_frozen BK181.out 0; have hfz12_1 := blk_frozen BK181.out 1))
              go_meet
              case rel => exact ⟨_, (true), (by first | rfl | (simp; done) | (simp [*]; done)), H', ⟨by first | omega | exact Nat.le_refl _⟩, ⟨by (with_reducible repeat (first | refine blk_drewN ?_ _ | refine blk_drew ?_ | refine blk_alloc ?_ _)); exact BK181.out⟩, ⟨by repeat (first | (with_reducible first | exact HB.out | apply below_alloc | apply pw_below_drewN | apply below_drew1 | refine below_set ?_ GE181.out) | exact HB.out)⟩⟩
            · rw [if_neg c11] at H
              have c11b0 : decide (a2_0 < 1) = false := decide_eq_false c11
              clear c11
              by_cases c13 : a2_0 ≥ 2147483579
              · rw [if_pos c13] at H
                have c13b0 : decide (2147483579 ≤ a2_0) = true := decide_eq_true c13
                clear c13
                have H' := Aside0.mk H
                clear H
                go_wp2_with (first | (go_at_call 36; (with_reducible refine (impl_ypow.calls k a0 1073741789 2147483579 t182 _ A9.out).mono ?_); rintro e w' ⟨rfl, ⟨nd, rfl⟩⟩; have hcz14_0 : w5.cell? ⟨gb181, 0, none⟩ = some (.int .i64 a2_0) := (blk_cell BK181.out 0).trans rfl; have hcz14_1 : w5.cell? ⟨gb181, 1, none⟩ = some (.int .i64 a2_1) := (blk_cell BK181.out 1).trans rfl; have hfz14_0 := blk_frozen BK181.out 0; have hfz14_1 := blk_frozen BK181.out 1))
                go_meet
                case rel => exact ⟨_, (true), (by first | rfl | (simp; done) | (simp [*]; done)), H', ⟨by first | omega | exact Nat.le_refl _⟩, ⟨by (with_reducible repeat (first | refine blk_drewN ?_ _ | refine blk_drew ?_ | refine blk_alloc ?_ _)); exact BK181.out⟩, ⟨by repeat (first | (with_reducible first | exact HB.out | apply below_alloc | apply pw_below_drewN | apply below_drew1 | refine below_set ?_ GE181.out) | exact HB.out)⟩⟩
              · rw [if_neg c13] at H
                have c13b0 : decide (2147483579 ≤ a2_0) = false := decide_eq_false c13
                clear c13
                by_cases c15 : a2_1 < 0
                · rw [if_pos c15] at H
                  have c15b0 : decide (a2_1 < 0) = true := decide_eq_true c15
                  clear c15
                  have H' := Aside0.mk H
                  clear H
                  go_wp2_with (first | (go_at_call 36; (with_reducible refine (impl_ypow.calls k a0 1073741789 2147483579 t182 _ A9.out).mono ?_); rintro e w' ⟨rfl, ⟨nd, rfl⟩⟩; have hcz16_0 : w5.cell? ⟨gb181, 0, none⟩ = some (.int .i64 a2_0) := (blk_cell BK181.out 0).trans rfl; have hcz16_1 : w5.cell? ⟨gb181, 1, none⟩ = some (.int .i64 a2_1) := (blk_cell BK181.out 1).trans rfl; have hfz16_0 := blk_frozen BK181.out 0; have hfz16_1 := blk_frozen BK181.out 1))
                  go_meet
                  case rel => exact ⟨_, (true), (by first | rfl | (simp; done) | (simp [*]; done)), H', ⟨by first | omega | exact Nat.le_refl _⟩, ⟨by (with_reducible repeat (first | refine blk_drewN ?_ _ | refine blk_drew ?_ | refine blk_alloc ?_ _)); exact BK181.out⟩, ⟨by repeat (first | (with_reducible first | exact HB.out | apply below_alloc | apply pw_below_drewN | apply below_drew1 | refine below_set ?_ GE181.out) | exact HB.out)⟩⟩
                · rw [if_neg c15] at H
                  have c15b0 : decide (a2_1 < 0) = false := decide_eq_false c15
                  clear c15
                  have H' := Aside0.mk H
                  clear H
                  go_wp2_with (first | (go_at_call 36; (with_reducible refine (impl_ypow.calls k a0 1073741789 2147483579 t182 _ A9.out).mono ?_); rintro e w' ⟨rfl, ⟨nd, rfl⟩⟩; have hcz17_0 : w5.cell? ⟨gb181, 0, none⟩ = some (.int .i64 a2_0) := (blk_cell BK181.out 0).trans rfl; have hcz17_1 : w5.cell? ⟨gb181, 1, none⟩ = some (.int .i64 a2_1) := (blk_cell BK181.out 1).trans rfl; have hfz17_0 := blk_frozen BK181.out 0; have hfz17_1 := blk_frozen BK181.out 1))
                  go_meet
                  case rel => exact ⟨_, (decide (a2_1 ≥ 1073741789)), (by first | rfl | (simp; done) | (simp [*]; done)), H', ⟨by first | omega | exact Nat.le_refl _⟩, ⟨by (with_reducible repeat (first | refine blk_drewN ?_ _ | refine blk_drew ?_ | refine blk_alloc ?_ _)); exact BK181.out⟩, ⟨by repeat (first | (with_reducible first | exact HB.out | apply below_alloc | apply pw_below_drewN | apply below_drew1 | refine below_set ?_ GE181.out) | exact HB.out)⟩⟩
          · rw [if_neg c10] at H
            have c10b0 : (t182 == 1) = false := beq_eq_false_iff_ne.mpr c10
            have c10b1 : (t182 != 1) = true := bne_iff_ne.mpr c10
            have H' := Aside0.mk H
            clear H
            go_wp2_with (first | (go_at_call 36; (with_reducible refine (impl_ypow.calls k a0 1073741789 2147483579 t182 _ A9.out).mono ?_); rintro e w' ⟨rfl, ⟨nd, rfl⟩⟩))
            go_meet
            case rel => exact ⟨_, (true), (by first | rfl | (simp; done) | (simp [*]; done)), H', ⟨by first | omega | exact Nat.le_refl _⟩, ⟨by (with_reducible repeat (first | refine blk_drewN ?_ _ | refine blk_drew ?_ | refine blk_alloc ?_ _)); exact BK181.out⟩, ⟨by repeat (first | (with_reducible first | exact HB.out | apply below_alloc | apply pw_below_drewN | apply below_drew1 | refine below_set ?_ GE181.out) | exact HB.out)⟩⟩
  case rest =>
    clear HC4
    try clear c1
    try clear c2
    try clear p2
    try clear c6
    try clear c6b0
    try clear c6b1
    try clear c7
    try clear c7b0
    try clear c8
    try clear c8b0
    try clear c10
    try clear c10b0
    try clear c10b1
    try clear c11
    try clear c11b0
    try clear c13
    try clear c13b0
    try clear c15
    try clear c15b0
    try clear hcz12_0
    try clear hcz12_1
    try clear hcz14_0
    try clear hcz14_1
    try clear hcz16_0
    try clear hcz16_1
    try clear hcz17_0
    try clear hcz17_1
    try clear hfz12_0
    try clear hfz12_1
    try clear hfz14_0
    try clear hfz14_1
    try clear hfz16_0
    try clear hfz16_1
    try clear hfz17_0
    try clear hfz17_1
    obtain ⟨kq, x42_3, rfl, HA, HJ3, BK181, HB⟩ := hcut
    cases kq with
    | zero => exact absurd HA.out (by simp [impl_Verify.j0])
    | succ kj3 =>
      have H := HA.out
      clear HA
      simp only [impl_Verify.j0] at H
      by_cases c18 : x42_3 = true
      · subst c18
        have H1 : (some false) = some r := by rw [if_pos rfl] at H; exact H
        clear H
        have H := H1
        clear H1
        obtain rfl := Option.some.inj H
        go_wp2
        go_ret
        exact ⟨by first | rfl | (simp [errW_none, errW_some] <;> rfl) | (simp [*, errW_none, errW_some] <;> rfl), by repeat (first | (with_reducible first | exact HB.out | apply below_alloc | apply pw_below_drewN | apply below_drew1 | refine below_set ?_ GE181.out) | exact HB.out)⟩
      · replace c18 := Bool.eq_false_iff.mpr c18
        subst c18
        have H1 : ((impl_ypow.f kj3 4 a2_1 2147483579).bind fun t183 => ((impl_ychallenge.f a2_0 l1).bind fun t184 => ((impl_ypow.f kj3 a0 t184 2147483579).bind fun t185 => (some (t183 == (Int.tmod (wrap64 (a2_0 * t185)) 2147483579)))))) = some r := by rw [if_neg (show ¬ (false = true) by decide)] at H; exact H
        clear H
        have H := H1
        clear H1
        replace H := Option.bind_eq_some_iff.mp H
        obtain ⟨t183, A190, H⟩ := H
        replace H : ((impl_ychallenge.f a2_0 l1).bind fun t184 => ((impl_ypow.f kj3 a0 t184 2147483579).bind fun t185 => (some (t183 == (Int.tmod (wrap64 (a2_0 * t185)) 2147483579))))) = some r := H
        have A19 := Aside0.mk A190
        clear A190
        replace H := Option.bind_eq_some_iff.mp H
        obtain ⟨t184, A200, H⟩ := H
        replace H : ((impl_ypow.f kj3 a0 t184 2147483579).bind fun t185 => (some (t183 == (Int.tmod (wrap64 (a2_0 * t185)) 2147483579)))) = some r := H
        have A20 := Aside0.mk A200
        clear A200
        replace H := Option.bind_eq_some_iff.mp H
        obtain ⟨t185, A210, H⟩ := H
        replace H : (some (t183 == (Int.tmod (wrap64 (a2_0 * t185)) 2147483579))) = some r := H
        have A21 := Aside0.mk A210
        clear A210
        obtain rfl := Option.some.inj H
        try go_wp2
        have n0_ := Aside0.mk (blk_drew BK181.out)
        have n1_ := Aside0.mk (below_drew1 HB.out)
        clear BK181
        clear HB
        have BK181 := n0_
        have HB := n1_
        clear n0_ n1_
        refine start_ (n := 15) (S := fun w' => w'.cell? ⟨gb181, 0, none⟩ = some (.int .i64 a2_0) ∧ w'.cell? ⟨gb181, 1, none⟩ = some (.int .i64 a2_1)) (ds := []) #[false, false, false, false, false, false, false, false, false, false, false, false, false, false, false] (by kernel_rfl) rfl rfl ⟨(blk_cell BK181.out 0).trans rfl, (blk_cell BK181.out 1).trans rfl⟩ (fun hHeld => ?_); refine with_tabW impl_Verify.tab3 impl_Verify.bits3 (fun HT_ HW_ => ?_)
        generalize wc.drew = w22 at BK181 HB hHeld ⊢
        refine pure_ (i := 0) (N := some 43) (v := ?_) (a' := ?_) #[true, false, false, false, false, false, false, false, false, false, false, false, false, false, false] rfl rfl (any_of HT_.out (by kernel_rfl)) (fun _ _ _ h => h) (Or.inl ⟨by rfl, ?_⟩) ?_ ?_
        rotate_left
        · intro w'
          go_simp
          with_reducible rfl
        rotate_left
        · simp only [Act.put, List.setIfInBounds_toArray, List.set_cons_zero, List.set_cons_succ, i64_w, i32_w]
          rfl
        refine pure_ (i := 3) (N := some 46) (v := ?_) (a' := ?_) #[true, false, false, true, false, false, false, false, false, false, false, false, false, false, false] rfl rfl (any_of HT_.out (by kernel_rfl)) (fun _ _ _ h => h) (Or.inl ⟨by rfl, ?_⟩) ?_ ?_
        rotate_left
        · intro w'
          go_simp
          with_reducible rfl
        rotate_left
        · simp only [Act.put, List.setIfInBounds_toArray, List.set_cons_zero, List.set_cons_succ, i64_w, i32_w]
          rfl
        refine pure_ (i := 5) (N := some 48) (v := ?_) (a' := ?_) #[true, false, false, true, false, true, false, false, false, false, false, false, false, false, false] rfl rfl (any_of HT_.out (by kernel_rfl)) (fun _ _ _ h => h) (Or.inl ⟨by rfl, ?_⟩) ?_ ?_
        rotate_left
        · intro w'
          go_simp
          with_reducible rfl
        rotate_left
        · simp only [Act.put, List.setIfInBounds_toArray, List.set_cons_zero, List.set_cons_succ, i64_w, i32_w]
          rfl
        refine pure_ (i := 6) (N := some 49) (v := ?_) (a' := ?_) #[true, false, false, true, false, true, true, false, false, false, false, false, false, false, false] rfl rfl (any_of HT_.out (by kernel_rfl)) (fun _ _ _ h => h) (Or.inl ⟨by rfl, ?_⟩) ?_ ?_
        rotate_left
        · intro w'
          go_simp
          with_reducible rfl
        rotate_left
        · simp only [Act.put, List.setIfInBounds_toArray, List.set_cons_zero, List.set_cons_succ, i64_w, i32_w]
          rfl
        refine pure_ (i := 8) (N := some 51) (v := ?_) (a' := ?_) #[true, false, false, true, false, true, true, false, true, false, false, false, false, false, false] rfl rfl (any_of HT_.out (by kernel_rfl)) (fun _ _ _ h => h) (Or.inl ⟨by rfl, ?_⟩) ?_ ?_
        rotate_left
        · intro w'
          go_simp
          with_reducible rfl
        rotate_left
        · simp only [Act.put, List.setIfInBounds_toArray, List.set_cons_zero, List.set_cons_succ, i64_w, i32_w]
          rfl
        refine take_ (i := 1) (N := some 44) (v := ?_) (a' := ?_) #[true, true, false, true, false, true, true, false, true, false, false, false, false, false, false] rfl rfl (take_ofW HT_.out HW_.out (by kernel_rfl)) (fun _ _ _ h => h) (Or.inl ⟨by rfl, ?_⟩) hHeld ?_ ?_
        rotate_left
        · rintro w' ⟨s0, s1⟩
          go_simp
          with_reducible rfl
        rotate_left
        · simp only [Act.put, List.setIfInBounds_toArray, List.set_cons_zero, List.set_cons_succ, i64_w, i32_w]
          rfl
        refine take_ (i := 4) (N := some 47) (v := ?_) (a' := ?_) #[true, true, false, true, true, true, true, false, true, false, false, false, false, false, false] rfl rfl (take_ofW HT_.out HW_.out (by kernel_rfl)) (fun _ _ _ h => h) (Or.inl ⟨by rfl, ?_⟩) hHeld ?_ ?_
        rotate_left
        · rintro w' ⟨s0, s1⟩
          go_simp
          with_reducible rfl
        rotate_left
        · simp only [Act.put, List.setIfInBounds_toArray, List.set_cons_zero, List.set_cons_succ, i64_w, i32_w]
          rfl
        refine take_ (i := 7) (N := some 50) (v := ?_) (a' := ?_) #[true, true, false, true, true, true, true, true, true, false, false, false, false, false, false] rfl rfl (take_ofW HT_.out HW_.out (by kernel_rfl)) (fun _ _ _ h => h) (Or.inl ⟨by rfl, ?_⟩) hHeld ?_ ?_
        rotate_left
        · rintro w' ⟨s0, s1⟩
          go_simp
          with_reducible rfl
        rotate_left
        · simp only [Act.put, List.setIfInBounds_toArray, List.set_cons_zero, List.set_cons_succ, i64_w, i32_w]
          rfl
        refine one_ (i := 2) (N := some 45) #[true, true, true, true, true, true, true, true, true, false, false, false, false, false, false] rfl rfl (one_of HT_.out (by kernel_rfl)) (by decide) (fun K hK => ?_)
        refine goes_ Try.func36 (by kernel_rfl) rfl #[.int .i64 4, .int .i64 a2_1, .int .i64 2147483579] (by rfl) rfl rfl (by (try simp only [List.map_toArray, List.map_cons, List.map_nil]); first | done | rfl | (simp only [List.length_drop, List.length_take]; rfl)) ?_
        with_reducible refine (impl_ypow.calls kj3 4 a2_1 2147483579 t183 _ A19.out).mono ?_
        rintro e w' ⟨rfl, ⟨nd, rfl⟩⟩
        refine ⟨_, rfl, ?_⟩
        refine hK.out _ _ ⟨(blk_cell BK181.out 0).trans rfl, (blk_cell BK181.out 1).trans rfl⟩ (fun hHeld => ?_)
        clear hK K
        refine norm_ (a' := ?_) ?_ ?_
        rotate_left
        · show Act.put _ (some 45) _ = _
          simp only [Act.put, List.setIfInBounds_toArray, List.set_cons_zero, List.set_cons_succ, i64_w, i32_w]
          rfl
        refine one_ (i := 9) (N := some 52) #[true, true, true, true, true, true, true, true, true, true, false, false, false, false, false] rfl rfl (one_of HT_.out (by kernel_rfl)) (by decide) (fun K hK => ?_)
        refine goes_ Try.func52 (by kernel_rfl) rfl #[.int .i64 a2_0, .slice A1 l1.length c1] (by rfl) rfl rfl (by (try simp only [List.map_toArray, List.map_cons, List.map_nil]); first | done | rfl | (simp only [List.length_drop, List.length_take]; rfl)) ?_
        with_reducible refine (impl_ychallenge.calls a2_0 _ _ l1 t184 _ ?side1 ?side2 A20.out).mono ?_
        (case side1 => repeat (first | exact (Kd.C_below HR1.out (by repeat (first | (with_reducible first | exact HB.out | apply below_alloc | apply pw_below_drewN | apply below_drew1 | refine below_set ?_ GE181.out) | exact HB.out))) | (with_reducible refine Kd.C_alloc ?_ _) | (with_reducible refine Kd.C_drewN ?_ _) | (with_reducible refine Kd.C_drew ?_)))
        (case side2 => exact HC1.out)
        rintro e w23 ⟨rfl, hb⟩
        refine ⟨_, rfl, ?_⟩
        have n0_ := Aside0.mk (blk_below (g := gb181) (o := .cells #[.int .i64 a2_0, .int .i64 a2_1] 51 (0, 0)) (by (with_reducible repeat (first | refine blk_drewN ?_ _ | refine blk_drew ?_ | refine blk_alloc ?_ _)); exact BK181.out) hb)
        have n1_ := Aside0.mk (below_step (by repeat (first | (with_reducible first | exact HB.out | apply below_alloc | apply pw_below_drewN | apply below_drew1 | refine below_set ?_ GE181.out) | exact HB.out)) hb)
        clear BK181
        clear HB
        have BK181 := n0_
        have HB := n1_
        clear n0_ n1_
        (try clear hb)
        (try clear hb2)
        (try clear hk)
        (try clear hi)
        refine hK.out _ _ ⟨(blk_cell BK181.out 0).trans rfl, (blk_cell BK181.out 1).trans rfl⟩ (fun hHeld => ?_)
        clear hK K
        refine norm_ (a' := ?_) ?_ ?_
        rotate_left
        · show Act.put _ (some 52) _ = _
          simp only [Act.put, List.setIfInBounds_toArray, List.set_cons_zero, List.set_cons_succ, i64_w, i32_w]
          rfl
        refine one_ (i := 10) (N := some 53) #[true, true, true, true, true, true, true, true, true, true, true, false, false, false, false] rfl rfl (one_of HT_.out (by kernel_rfl)) (by decide) (fun K hK => ?_)
        refine goes_ Try.func36 (by kernel_rfl) rfl #[.int .i64 a0, .int .i64 t184, .int .i64 2147483579] (by rfl) rfl rfl (by (try simp only [List.map_toArray, List.map_cons, List.map_nil]); first | done | rfl | (simp only [List.length_drop, List.length_take]; rfl)) ?_
        with_reducible refine (impl_ypow.calls kj3 a0 t184 2147483579 t185 _ A21.out).mono ?_
        rintro e w' ⟨rfl, ⟨nd, rfl⟩⟩
        refine ⟨_, rfl, ?_⟩
        refine hK.out _ _ ⟨(blk_cell BK181.out 0).trans rfl, (blk_cell BK181.out 1).trans rfl⟩ (fun hHeld => ?_)
        clear hK K
        refine norm_ (a' := ?_) ?_ ?_
        rotate_left
        · show Act.put _ (some 53) _ = _
          simp only [Act.put, List.setIfInBounds_toArray, List.set_cons_zero, List.set_cons_succ, i64_w, i32_w]
          rfl
        refine pure_ (i := 11) (N := some 54) (v := ?_) (a' := ?_) #[true, true, true, true, true, true, true, true, true, true, true, true, false, false, false] rfl rfl (any_of HT_.out (by kernel_rfl)) (fun _ _ _ h => h) (Or.inl ⟨by rfl, ?_⟩) ?_ ?_
        rotate_left
        · intro w'
          go_simp
          with_reducible rfl
        rotate_left
        · simp only [Act.put, List.setIfInBounds_toArray, List.set_cons_zero, List.set_cons_succ, i64_w, i32_w]
          rfl
        refine pure_ (i := 12) (N := some 55) (v := ?_) (a' := ?_) #[true, true, true, true, true, true, true, true, true, true, true, true, true, false, false] rfl rfl (any_of HT_.out (by kernel_rfl)) (fun _ _ _ h => h) (Or.inl ⟨by rfl, ?_⟩) ?_ ?_
        rotate_left
        · intro w'
          go_simp
          with_reducible rfl
        rotate_left
        · simp only [Act.put, List.setIfInBounds_toArray, List.set_cons_zero, List.set_cons_succ, i64_w, i32_w]
          rfl
        refine pure_ (i := 13) (N := some 56) (v := ?_) (a' := ?_) #[true, true, true, true, true, true, true, true, true, true, true, true, true, true, false] rfl rfl (any_of HT_.out (by kernel_rfl)) (fun _ _ _ h => h) (Or.inl ⟨by rfl, ?_⟩) ?_ ?_
        rotate_left
        · intro w'
          go_simp
          with_reducible rfl
        rotate_left
        · simp only [Act.put, List.setIfInBounds_toArray, List.set_cons_zero, List.set_cons_succ, i64_w, i32_w]
          rfl
        refine pure_ (i := 14) (N := some 6) (v := ?_) (a' := ?_) #[true, true, true, true, true, true, true, true, true, true, true, true, true, true, true] rfl rfl (any_of HT_.out (by kernel_rfl)) (fun _ _ _ h => h) (Or.inl ⟨by rfl, ?_⟩) ?_ ?_
        rotate_left
        · intro w'
          go_simp
          with_reducible rfl
        rotate_left
        · simp only [Act.put, List.setIfInBounds_toArray, List.set_cons_zero, List.set_cons_succ, i64_w, i32_w]
          rfl
        refine done_ (done_of HT_.out (by kernel_rfl)) ?_
        try go_wp2
        go_ret
        exact ⟨by first | rfl | (simp [errW_none, errW_some] <;> rfl) | (simp [*, errW_none, errW_some] <;> rfl), by repeat (first | (with_reducible first | exact HB.out | apply below_alloc | apply pw_below_drewN | apply below_drew1 | refine below_set ?_ GE181.out) | exact HB.out)⟩

/-! ### laws_eqByteS: function 29 -/
def laws_eqByteS.l0 : Nat → List Int → List Int → Int → Option (Bool)
  | 0, _, _, _ => none
  | k + 1, x0, x1, x5 => if x5 < (x0.length : Int) then (if 0 ≤ x5 then (if x5 < (x1.length : Int) then (if (rd x0 x5) = (rd x1 x5) then (laws_eqByteS.l0 k x0 x1 (wrap64 (x5 + 1))) else (some false)) else (none)) else (none)) else (some true)
def laws_eqByteS.f (k : Nat) (l0 : List Int) (l1 : List Int) : Option (Bool) := if (l0.length : Int) = (l1.length : Int) then (laws_eqByteS.l0 k l0 l1 0) else (some false)
theorem laws_eqByteS.mono_l : ∀ k, (∀ y0 y1 y2, LeO (laws_eqByteS.l0 k y0 y1 y2) (laws_eqByteS.l0 (k + 1) y0 y1 y2))
  | 0 => fun _ _ _ r h => by simp [laws_eqByteS.l0] at h
  | k + 1 => by
    have ih0 := laws_eqByteS.mono_l k
    · intro y0 y1 y2
      unfold laws_eqByteS.l0
      repeat' first
      | (with_reducible exact ih0 _ _ _)
      | (with_reducible exact LeO.refl _)
      | (with_reducible exact LeO.none _)
      | (with_reducible refine LeO.ite ?_ ?_)
      | (with_reducible refine LeO.bind ?_ (fun _ => ?_))
      | exact ih0 _ _ _
      | exact LeO.none _
      | refine LeO.ite ?_ ?_
      | refine LeO.bind ?_ (fun _ => ?_)
theorem laws_eqByteS.mono : ∀ a0 a1 k, LeO (laws_eqByteS.f k a0 a1) (laws_eqByteS.f (k + 1) a0 a1) := by
  intro a0 a1 k
  have ih0 := laws_eqByteS.mono_l k
  unfold laws_eqByteS.f
  repeat' first
      | (with_reducible exact ih0 _ _ _)
      | (with_reducible exact LeO.refl _)
      | (with_reducible exact LeO.none _)
      | (with_reducible refine LeO.ite ?_ ?_)
      | (with_reducible refine LeO.bind ?_ (fun _ => ?_))
      | exact ih0 _ _ _
      | exact LeO.none _
      | refine LeO.ite ?_ ?_
      | refine LeO.bind ?_ (fun _ => ?_)
set_option maxHeartbeats 8000000 in
set_option maxRecDepth 100000 in
theorem laws_eqByteS.calls (k : Nat) (A0 : Option Addr) (c0 : Nat) (l0 : List Int) (A1 : Option Addr) (c1 : Nat) (l1 : List Int) (r : Bool) (w : World) (hr0 : Kd.C (Kd.int .u8) w A0 l0.length l0) (hc0 : l0.length ≤ c0) (hr1 : Kd.C (Kd.int .u8) w A1 l1.length l1) (hc1 : l1.length ≤ c1) (h : laws_eqByteS.f k l0 l1 = some r) :
    Calls Try.prog 29 #[.slice A0 l0.length c0, .slice A1 l1.length c1] w fun e w' => e = .returned (.bool r) ∧ Drawn0 w w' := by
  have HR0 := Aside0.mk hr0
  have HC0 := Aside0.mk hc0
  clear hr0 hc0
  have HR1 := Aside0.mk hr1
  have HC1 := Aside0.mk hc1
  clear hr1 hc1
  have H : (if (l0.length : Int) = (l1.length : Int) then (laws_eqByteS.l0 k l0 l1 0) else (some false)) = some r := h
  clear h
  by_cases c3 : (l0.length : Int) = (l1.length : Int)
  · rw [if_pos c3] at H
    have c3b0 : ((l0.length : Int) == (l1.length : Int)) = true := beq_iff_eq.mpr c3
    have c3b1 : ((l0.length : Int) != (l1.length : Int)) = false := bne_eq_false_iff_eq.mpr c3
    have c3b2 : (l0.length == l1.length) = true := by first | simpa using c3 | (simp at c3 ⊢; omega)
    clear c3
    have H' := Aside0.mk H
    clear H
    go_enter Try.func29, Try.ntmps29
    go_wp2
    repeat (go_quiet (fail); try go_wp2)
    go_loopg [5] k (fun kq v5 w' => ∃ (x5_1 : Int), v5 = .int .i64 x5_1 ∧ Aside0 (laws_eqByteS.l0 kq l0 l1 x5_1 = some r) ∧ Aside0 (kq ≤ k) ∧ Drawn0 w w')
    case atStart => exact ⟨(0), (by first | rfl | (simp; done) | (simp [*]; done)), H', ⟨Nat.le_refl _⟩, by repeat (first | exact Drawn0.refl _ | apply Drawn0.step)⟩
    case round =>
      clear H'
      try clear c1
      try clear c2
      try clear p2
      try clear c3
      try clear c3b0
      try clear c3b1
      try clear c3b2
      obtain ⟨x5_1, rfl, HA, HK1, ⟨m1, rfl⟩⟩ := hrel
      cases gk with
      | zero => exact absurd HA.out (by simp [laws_eqByteS.l0])
      | succ k1 =>
        have H := HA.out
        clear HA
        simp only [laws_eqByteS.l0] at H
        by_cases c4 : x5_1 < (l0.length : Int)
        · rw [if_pos c4] at H
          have c4b0 : decide (x5_1 < (l0.length : Int)) = true := decide_eq_true c4
          clear c4
          by_cases c5 : 0 ≤ x5_1
          · rw [if_pos c5] at H
            have c5b0 : decide (0 ≤ x5_1) = true := decide_eq_true c5
            clear c5
            by_cases c6 : x5_1 < (l1.length : Int)
            · rw [if_pos c6] at H
              have c6b0 : decide (x5_1 < (l1.length : Int)) = true := decide_eq_true c6
              clear c6
              by_cases c7 : (rd l0 x5_1) = (rd l1 x5_1)
              · rw [if_pos c7] at H
                have c7b0 : ((rd l0 x5_1) == (rd l1 x5_1)) = true := beq_iff_eq.mpr c7
                have c7b1 : ((rd l0 x5_1) != (rd l1 x5_1)) = false := bne_eq_false_iff_eq.mpr c7
                clear c7
                have H' := Aside0.mk H
                clear H
                have p186 : 0 ≤ (x5_1 : Int) := of_decide_eq_true (by first | (with_reducible assumption) | assumption)
                have q186 : x5_1 < (l0.length : Int) := of_decide_eq_true (by first | (with_reducible assumption) | assumption)
                obtain ⟨ad186, e186, hx186_0⟩ := Kd.at_int HR0.out x5_1 p186 q186
                cases e186
                replace p186 := eq_true p186
                replace q186 := eq_true q186
                have p187 : 0 ≤ (x5_1 : Int) := of_decide_eq_true (by first | (with_reducible assumption) | assumption)
                have q187 : x5_1 < (l1.length : Int) := of_decide_eq_true (by first | (with_reducible assumption) | assumption)
                obtain ⟨ad187, e187, hx187_0⟩ := Kd.at_int HR1.out x5_1 p187 q187
                cases e187
                replace p187 := eq_true p187
                replace q187 := eq_true q187
                go_wp2
                repeat (go_quiet (fail); try go_wp2)
                go_roundg k1
                case measure => have := HK1.out; omega
                case rel => exact ⟨(wrap64 (x5_1 + 1)), (by first | rfl | (simp; done) | (simp [*]; done)), H', ⟨by have := HK1.out; omega⟩, by repeat (first | exact Drawn0.refl _ | apply Drawn0.step)⟩
              · rw [if_neg c7] at H
                have c7b0 : ((rd l0 x5_1) == (rd l1 x5_1)) = false := beq_eq_false_iff_ne.mpr c7
                have c7b1 : ((rd l0 x5_1) != (rd l1 x5_1)) = true := bne_iff_ne.mpr c7
                obtain rfl := Option.some.inj H
                have p186 : 0 ≤ (x5_1 : Int) := of_decide_eq_true (by first | (with_reducible assumption) | assumption)
                have q186 : x5_1 < (l0.length : Int) := of_decide_eq_true (by first | (with_reducible assumption) | assumption)
                obtain ⟨ad186, e186, hx186_0⟩ := Kd.at_int HR0.out x5_1 p186 q186
                cases e186
                replace p186 := eq_true p186
                replace q186 := eq_true q186
                have p187 : 0 ≤ (x5_1 : Int) := of_decide_eq_true (by first | (with_reducible assumption) | assumption)
                have q187 : x5_1 < (l1.length : Int) := of_decide_eq_true (by first | (with_reducible assumption) | assumption)
                obtain ⟨ad187, e187, hx187_0⟩ := Kd.at_int HR1.out x5_1 p187 q187
                cases e187
                replace p187 := eq_true p187
                replace q187 := eq_true q187
                go_wp2
                repeat (go_quiet (fail); try go_wp2)
                go_ret
                exact ⟨by first | rfl | (simp; done) | (simp [*]; done), by repeat (first | exact Drawn0.refl _ | apply Drawn0.step)⟩
            · rw [if_neg c6] at H
              exact absurd H (by simp)
          · rw [if_neg c5] at H
            exact absurd H (by simp)
        · rw [if_neg c4] at H
          have c4b0 : decide (x5_1 < (l0.length : Int)) = false := decide_eq_false c4
          clear c4
          obtain rfl := Option.some.inj H
          go_wp2
          repeat (go_quiet (fail); try go_wp2)
          go_ret
          exact ⟨by first | rfl | (simp; done) | (simp [*]; done), by repeat (first | exact Drawn0.refl _ | apply Drawn0.step)⟩
  · rw [if_neg c3] at H
    have c3b0 : ((l0.length : Int) == (l1.length : Int)) = false := beq_eq_false_iff_ne.mpr c3
    have c3b1 : ((l0.length : Int) != (l1.length : Int)) = true := bne_iff_ne.mpr c3
    have c3b2 : (l0.length == l1.length) = false := by first | simpa using c3 | (simp at c3 ⊢; omega)
    obtain rfl := Option.some.inj H
    go_enter Try.func29, Try.ntmps29
    go_wp2
    repeat (go_quiet (fail); try go_wp2)
    go_ret
    exact ⟨by first | rfl | (simp; done) | (simp [*]; done), by repeat (first | exact Drawn0.refl _ | apply Drawn0.step)⟩

end Go.Proofs.Ytmnlgdmojbhfcaa.PFnExactVerify
