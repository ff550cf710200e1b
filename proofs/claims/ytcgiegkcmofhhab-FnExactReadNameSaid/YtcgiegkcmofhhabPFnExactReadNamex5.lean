-- Written for this claim by a program of this session, which goes by the kit's print and takes contracts proved by hand.
import Derived.Test.YtcgiegkcmofhhabPFnExactReadNamex0
import Derived.Test.YtcgiegkcmofhhabPFnExactReadNamex3
import Derived.Test.YtcgiegkcmofhhabPFnExactReadNamex4
namespace Go.Proofs.Ytcgiegkcmofhhab.PFnExactReadName
open Go.RowKit Go.Proofs.YtcgiegkcmofhhabW.PrintWords Go.Proofs.YtcgiegkcmofhhabW.PrintLast Go.Proofs.YtcgiegkcmofhhabW.PrintMore
attribute [local go_sem] max2_int min2_int max_two min_two max_three min_three max_four min_four   -- for this text's walks alone
set_option linter.unusedVariables false
set_option linter.unusedSimpArgs false

/-! ### impl_yescape: function 114 -/
/-! ### strings.Builder: copyCheck, WriteByte, String -/
theorem BC_size : ∃ j, Try.prog.info? 166 = some j ∧ j.size = 2 := Option.map_eq_some_iff.1 (show (Try.prog.info? 166).map (·.size) = some 2 by kernel_rfl)
theorem BC_lies : liesAt Try.prog Try.prog.depth 166 (2 / Try.prog.cellsOf 166) 0 166 1 = true := by kernel_rfl
set_option maxHeartbeats 1000000 in
set_option maxRecDepth 100000 in
theorem BC_copyCheck_used (b : Nat) (w : World) (h0 : w.cell? ⟨b, 0, none⟩ = some (.pointer (some ⟨b, 0, none⟩))) :
    Calls Try.prog 157 #[.pointer (some ⟨b, 0, none⟩)] w fun e w' => e = .returned (.tuple #[]) ∧ w' = w := by
  obtain ⟨j, hj, _⟩ := BC_size
  have u37 := Try.underlying166
  have u35 := Try.underlying164
  go_enter Try.func157, Try.ntmps157
  go_wp2
  rw [Lib.run_neq_ptr_same w _ u35 hj]
  go_wp2
  go_end0
  exact ⟨rfl, rfl⟩
set_option maxHeartbeats 1000000 in
set_option maxRecDepth 100000 in
theorem BC_copyCheck_fresh (b : Nat) (w : World) (h0 : w.cell? ⟨b, 0, none⟩ = some (.pointer none)) (hsh : w.shape? b = some (166, 2)) (hfz : w.frozen? ⟨b, 0, none⟩ = false) :
    Calls Try.prog 157 #[.pointer (some ⟨b, 0, none⟩)] w fun e w' => e = .returned (.tuple #[]) ∧ w' = w.setCell ⟨b, 0, none⟩ (.pointer (some ⟨b, 0, none⟩)) := by
  obtain ⟨j, hj, hjs⟩ := BC_size
  have u37 := Try.underlying166
  have u35 := Try.underlying164
  have u49 := Try.underlying187
  go_enter Try.func157, Try.ntmps157
  go_wp2
  rw [Lib.run_to_unsafe w ⟨b, 0, none⟩ u35 u49 hj (by rw [hjs]; decide) hsh (Nat.zero_lt_succ 1)]
  simp only [Result.andThen]
  rw [Oper.upon_value]
  go_wp2
  rw [run_callFunc_extern Try.func165 (by kernel_rfl) (by kernel_rfl) (by kernel_rfl) (e := Extern.AbiNoEscape.same) (by kernel_rfl)]
  rw [Lib.run_noEscape]
  simp only [Result.andThen]
  rw [Oper.upon_value]
  go_wp2
  rw [Lib.run_from_unsafe w ⟨b, 0, none⟩ u49 u35 hj hsh BC_lies]
  simp only [Result.andThen]
  rw [Oper.upon_value]
  go_wp2
  go_end0
  exact ⟨rfl, rfl⟩
theorem BC_copyCheck (B b : Nat) (bs : List Value) (w : World) (h : Lib.IsBuilder 166 5 B b bs w) :
    Calls Try.prog 157 #[.pointer (some ⟨b, 0, none⟩)] w fun e w' => e = .returned (.tuple #[]) ∧ (Lib.BuilderAt 166 5 B b (.pointer (some ⟨b, 0, none⟩)) bs w' ∧ Below B w w') := by
  rcases h with h | h
  · refine (BC_copyCheck_fresh b w h.cell0 h.shape h.frozen0).mono ?_
    rintro e w' ⟨rfl, rfl⟩
    exact ⟨rfl, h.used _, (Below.refl B w).setCell (p := ⟨b, 0, none⟩) h.1 _⟩
  · refine (BC_copyCheck_used b w h.cell0).mono ?_
    rintro e w' ⟨rfl, rfl⟩
    exact ⟨rfl, h, Below.refl B _⟩
set_option maxHeartbeats 2000000 in
set_option maxRecDepth 100000 in
theorem BC_WriteByte (B b : Nat) (bs : List Value) (c : Int) (w : World) (h : Lib.IsBuilder 166 5 B b bs w) (hlen : bs.length + 1 ≤ 140737488355328) (hsize : B ≤ w.heap.size) :
    Calls Try.prog 139 #[.pointer (some ⟨b, 0, none⟩), .int .u8 c] w fun e w' => e = .returned .nilIface ∧ (Lib.BuilderAt 166 5 B b (.pointer (some ⟨b, 0, none⟩)) (bs ++ [.int .u8 c]) w' ∧ Below B w w') := by
  obtain ⟨i0, hi, hz0, hz1, hz2⟩ := info_parts (show (Try.prog.info? 5).map (fun i => (i.zero, i.size, i.bytes)) = some (some (.int .u8 0), 1, 1) by kernel_rfl)
  have u37 := Try.underlying166
  have u35 := Try.underlying164
  have u26 := Try.underlying109
  have u5 := Try.underlying5
  have e40 : ∀ args w, (callFunc 157 args).run Try.prog w = .ok (.enter 157 args) w := enters_of Try.func157 (by kernel_rfl) rfl
  go_enter Try.func139, Try.ntmps139
  go_wp2_with (go_at_fn 157; refine (BC_copyCheck B b bs _ h).mono ?_)
  rintro e w1 ⟨rfl, h1, hb1⟩
  obtain ⟨hB, v, hbk, hown, hne⟩ := h1
  have c0 : w1.cell? ⟨b, 0, none⟩ = some (.pointer (some ⟨b, 0, none⟩)) := by rw [Lib.cell_of_heap hbk]; rfl
  have c1 : w1.cell? ⟨b, 1, none⟩ = some v := by rw [Lib.cell_of_heap hbk]; rfl
  go_wp2_with (at_builtin; refine wpList_append_own _ rfl _ _ 109 rfl B 5 i0 (.int .u8 0) 1 1 u26 hi hz0 hz1 hz2 rfl (by decide) _ _ _ rfl (hown.alloc _) ⟨w1.heap.size, 0, none⟩ 1 1 [.int .u8 c] rfl rfl ?c1 ?c2 ?c3 ?c4 ?c5 ?_)
  case c1 =>
    intro j u hj
    match j, hj with
    | 0, hj => simp at hj; subst hj; simp [Addr.add]
  case c2 => intro u hu; simp at hu; subst hu; rfl
  case c3 => unfold maxLen; omega
  case c4 => omega
  case c5 => have := hb1.size; simp; omega
  intro v' w2 hown' hgrow _
  have hlt : b < w1.heap.size := by
    rcases Nat.lt_or_ge b w1.heap.size with h' | h'
    · exact h'
    · simp [Array.getElem?_eq_none h'] at hbk
  have hb2 : w2.heap[b]? = some (.cells #[.pointer (some ⟨b, 0, none⟩), v] 166 (0, 0)) := by
    rw [hgrow.block b (by simp; omega) (fun e => hne e.symm), Lib.alloc_old w1 _ b hlt]
    exact hbk
  have d0 : w2.cell? ⟨b, 0, none⟩ = some (.pointer (some ⟨b, 0, none⟩)) := by rw [Lib.cell_of_heap hb2]; rfl
  have d1 : w2.cell? ⟨b, 1, none⟩ = some v := by rw [Lib.cell_of_heap hb2]; rfl
  have f1 : w2.frozen? ⟨b, 1, none⟩ = false := Lib.frozen_of_heap hb2 1
  obtain ⟨g, cap, rfl⟩ : ∃ g cap, v' = .slice (some ⟨g, 0, none⟩) (bs.length + 1) cap := by
    rcases hown'.2 with ⟨_, h0⟩ | ⟨g, cap, cur, hv, _⟩
    · omega
    · exact ⟨g, cap, hv⟩
  go_wp2
  go_ret
  refine ⟨rfl, ?_, ?_⟩
  · exact Lib.BuilderAt.put (T := 166) (e := 5) hB hb2 (bs' := bs ++ [.int .u8 c]) (by simpa using hown') (by decide)
  · exact ((hb1.alloc (by have := hb1.size; omega) _).grown hgrow (by have := hb1.size; simp; omega) (fun k hk => (hown.lt k hk).1)).setCell (p := ⟨b, 1, none⟩) hB _

set_option maxHeartbeats 1000000 in
set_option maxRecDepth 100000 in
theorem BC_String (B b : Nat) (l : List UInt8) (w : World) (h : Lib.IsBuilder 166 5 B b (Lib.byteCells l) w) (h0 : l ≠ []) :
    Calls Try.prog 140 #[.pointer (some ⟨b, 0, none⟩)] w fun e w' => e = .returned (.string ⟨l.toArray⟩) ∧ Below B w w' := by
  obtain ⟨p, hB, v, hbk, hown, hne⟩ : ∃ p, Lib.BuilderAt 166 5 B b p (Lib.byteCells l) w := by
    rcases h with h | h
    · exact ⟨_, h⟩
    · exact ⟨_, h⟩
  have hl0 : l.length ≠ 0 := by simpa using h0
  rw [Lib.byteCells_length] at hown
  obtain ⟨g, cap, cur, rfl, hbg, hg, hnc, hcm, hcs, htake⟩ : ∃ g cap cur, v = .slice (some ⟨g, 0, none⟩) l.length cap ∧ B ≤ g ∧ w.heap[g]? = some (.cells cur 5 (0, 0)) ∧ l.length ≤ cap ∧ cap ≤ maxLen ∧ cur.size = cap * 1 ∧ cur.toList.take (l.length * 1) = Lib.byteCells l := by
    rcases hown.2 with ⟨_, hz⟩ | ⟨g, cap, cur, hv, r⟩
    · exact absurd hz hl0
    · exact ⟨g, cap, cur, hv, r⟩
  have c1 : w.drew.cell? ⟨b, 1, none⟩ = some (.slice (some ⟨g, 0, none⟩) l.length cap) := by
    have : w.drew.heap[b]? = some (.cells #[p, .slice (some ⟨g, 0, none⟩) l.length cap] 166 (0, 0)) := hbk
    rw [Lib.cell_of_heap this]; rfl
  have hSD : (Builtin.unsafeSliceData_ #[109] 181 #[.slice (some ⟨g, 0, none⟩) l.length cap]).run Try.prog w.drew = .ok (.pointer (some ⟨g, 0, none⟩)) w.drew :=
    Lib.run_unsafeSliceData_row _ _ _ _ _ _ (by omega)
  have hUS : (Builtin.unsafeString_ #[181, 3] 9 #[.pointer (some ⟨g, 0, none⟩), .int .i64 l.length]).run Try.prog w.drew = .ok (.string ⟨l.toArray⟩) (w.drew.freeze ⟨g, 0, none⟩ l.length) := by
    refine Lib.run_unsafeString_row w.drew 181 3 9 5 Try.underlying181 (by kernel_rfl) g cur.size (by have hg' : w.drew.heap[g]? = some (.cells cur 5 (0, 0)) := hg; simp [World.shape?, hg']) l h0 (by omega) (by unfold maxLen at hcm; omega) ?_
    intro j x hx
    have := hown.cells (g := g) rfl j (.int .u8 x.toNat) (by simp [Lib.byteCells, hx])
    exact this
  have u37 := Try.underlying166
  have u35 := Try.underlying164
  have u26 := Try.underlying109
  have u46 := Try.underlying181
  have mixed : Try.prog.follows .mixedOrders = true := by kernel_rfl
  go_enter Try.func140, Try.ntmps140
  go_wp2
  go_region_o
  all_goals (go_wp2; go_ret; exact ⟨rfl, Lib.below_freeze (Below.drew (Below.refl B w)) (p := ⟨g, 0, none⟩) hbg _⟩)
set_option maxHeartbeats 2000000 in
set_option maxRecDepth 100000 in
theorem BC_String_nil (B b : Nat) (p : Value) (w : World) (hbk : w.heap[b]? = some (.cells #[p, .slice none 0 0] 166 (0, 0))) :
    Calls Try.prog 140 #[.pointer (some ⟨b, 0, none⟩)] w fun e w' => e = .returned (.string ⟨#[]⟩) ∧ Below B w w' := by
  have hUS : ∀ (W : World) (q : Option Addr), (Builtin.unsafeString_ #[181, 3] 9 #[.pointer q, .int .i64 0]).run Try.prog W = .ok (.string .empty) W := fun W q => Lib.run_unsafeString_none W _ _ _ q
  have c1 : w.drew.cell? ⟨b, 1, none⟩ = some (.slice none 0 0) := by
    have : w.drew.heap[b]? = some (.cells #[p, .slice none 0 0] 166 (0, 0)) := hbk
    rw [Lib.cell_of_heap this]; rfl
  have hSD : (Builtin.unsafeSliceData_ #[109] 181 #[.slice none 0 0]).run Try.prog w.drew = .ok (.pointer none) w.drew := rfl
  have u37 := Try.underlying166
  have u35 := Try.underlying164
  have u26 := Try.underlying109
  have u46 := Try.underlying181
  have mixed : Try.prog.follows .mixedOrders = true := by kernel_rfl
  go_enter Try.func140, Try.ntmps140
  go_wp2
  go_region_o
  all_goals (go_wp2; go_ret; exact ⟨rfl, Below.drew (Below.refl B w)⟩)
theorem byteCells_snocE (l : List UInt8) (c : UInt8) : Lib.byteCells (l ++ [c]) = Lib.byteCells l ++ [.int .u8 c.toNat] := by simp [Lib.byteCells]
theorem below_stepE {B : Nat} {w w1 w2 : World} (h : Below B w w1) (k : Below B w1 w2) : Below B w w2 := h.trans k
structure InE (W : World) (l : List UInt8) (w : World) : Prop where
  a : Lib.IsBuilder 166 5 W.heap.size W.heap.size (Lib.byteCells l) w
  n : l = [] → ∃ p, w.heap[W.heap.size]? = some (.cells #[p, .slice none 0 0] 166 (0, 0))
  b : Below W.heap.size W w
theorem InE.drewN {W : World} {l : List UInt8} {w : World} (h : InE W l w) (n : Nat) : InE W l (w.drewN n) := ⟨h.a, h.n, pw_below_drewN h.b n⟩
theorem InE.step {W : World} {l : List UInt8} {w w1 : World} (c : UInt8) {bs : List Value} (h : InE W l w) (hb : Lib.BuilderAt 166 5 W.heap.size W.heap.size (.pointer (some ⟨W.heap.size, 0, none⟩)) bs w1) (hbl : Below W.heap.size w w1) (e : bs = Lib.byteCells l ++ [.int .u8 c.toNat]) : InE W (l ++ [c]) w1 :=
  ⟨Or.inr (by rw [byteCells_snocE, ← e]; exact hb), fun z => absurd z (by simp), h.b.trans hbl⟩
theorem measE {n i : Nat} {x : Int} (hx : x = (i : Int) + 1) (hi : i < n) : n - (intOf (.int .i64 x)).toNat < n - (intOf (.int .i64 (i : Int))).toNat := by
  subst hx
  show n - ((i : Int) + 1).toNat < n - (i : Int).toNat
  omega
def escL (set : ByteArray) (l : List UInt8) : List UInt8 := l.flatMap fun c => if Lib.indexByte set.data.toList c ≥ 0 then [92, c] else [c]
theorem escL_len (set : ByteArray) : ∀ l, (escL set l).length ≤ 2 * l.length
  | [] => Nat.le_refl _
  | c :: l => by
    have h := escL_len set l
    unfold escL at *
    rw [List.flatMap_cons, List.length_append, List.length_cons]
    have h2 : (if Lib.indexByte set.data.toList c ≥ 0 then [92, c] else [c]).length ≤ 2 := by split <;> simp
    omega
theorem escL_step (set : ByteArray) (l : List UInt8) (k : Nat) (h : k < l.length) : escL set (l.take (k + 1)) = escL set (l.take k) ++ (if Lib.indexByte set.data.toList l[k] ≥ 0 then [92, l[k]] else [l[k]]) := by
  rw [List.take_succ_eq_append_getElem h]
  unfold escL
  rw [List.flatMap_append]
  simp
def impl_yescape.f (a0 : ByteArray) (a1 : ByteArray) : Option ByteArray := if a0.size ≤ 1048576 then some (⟨(escL a1 a0.data.toList).toArray⟩ : ByteArray) else none
set_option maxHeartbeats 8000000 in
set_option maxRecDepth 100000 in
theorem impl_yescape.calls (a0 : ByteArray) (a1 : ByteArray) (r : ByteArray) (w : World) (h : impl_yescape.f a0 a1 = some r) :
    Calls Try.prog 114 #[.string a0, .string a1] w fun e w' => e = .returned (.string r) ∧ Below w.heap.size w w' := by
  unfold impl_yescape.f at h
  by_cases hs : a0.size ≤ 1048576
  · rw [if_pos hs] at h
    obtain rfl := Option.some.inj h
    clear h
    go_enter Try.func114, Try.ntmps114
    go_wp2
    go_loopw [9] (fun v9 w' => ∃ k : Nat, k ≤ a0.size ∧ v9 = .int .i64 k ∧ Aside0 (InE w (escL a1 (a0.data.toList.take k)) w')) (fun v9 _ => a0.size - (intOf v9).toNat)
    case atStart =>
      refine ⟨0, Nat.zero_le _, rfl, ⟨?_, ?_, ?_⟩⟩
      · have z := heap_alloc_new w (.cells #[.pointer none, .slice none 0 0] 166 (0, 0))
        exact Or.inl ⟨Nat.le_refl _, .slice none 0 0, z, by rw [List.take_zero]; exact World.ownsRow_nil _ _ _ _, by simp [Value.ownBlock]⟩
      · intro _
        exact ⟨_, heap_alloc_new w (.cells #[.pointer none, .slice none 0 0] 166 (0, 0))⟩
      · exact (Below.refl _ w).alloc (Nat.le_refl _) _
    case round =>
      obtain ⟨k, hk, rfl, HI⟩ := hrel
      by_cases hlt : k < a0.size
      · have q := eq_true (show (k : Int) < a0.size by omega)
        have hN := hs
        have hW : wrap64 ((k : Int) + 1) = (k : Int) + 1 := by unfold wrap64; omega
        have hk1 : k < a0.data.toList.length := by simpa using hlt
        have hIx : strings_IndexByte.f a1 (((a0[k]).toNat : Nat) : Int) = some (Lib.indexByte a1.data.toList a0[k]) := by simp [strings_IndexByte.f, stringslite_IndexByte.f]
        have HL := Aside0.mk (show (escL a1 (a0.data.toList.take k)).length ≤ 2 * k from Nat.le_trans (escL_len _ _) (by rw [List.length_take]; omega))
        have hst := escL_step a1 a0.data.toList k hk1
        rw [show a0.data.toList[k] = a0[k] from rfl] at hst
        by_cases hI : Lib.indexByte a1.data.toList a0[k] ≥ 0
        · rw [if_pos hI] at hst
          have HST := Aside0.mk hst
          clear hst
          have hIb : decide (0 ≤ Lib.indexByte a1.data.toList a0[k]) = true := decide_eq_true hI
          clear hI
          go_wp2_with (first | (go_at_call 138; refine (strings_IndexByte.calls a1 _ _ _ hIx).mono ?_; rintro e w' ⟨rfl, ⟨nd, rfl⟩⟩; have HJ := Aside0.mk (HI.out.drewN nd)) | (go_at_call 139; refine (BC_WriteByte w.heap.size w.heap.size (Lib.byteCells (escL a1 (a0.data.toList.take k) ++ [92])) _ _ HM.out.a (by rw [Lib.byteCells_length, List.length_append]; have := HL.out; show _ + 1 + 1 ≤ _; omega) HM.out.b.size).mono ?_; rintro e w1 ⟨rfl, hb, hbl⟩; have HQ := Aside0.mk (HM.out.step a0[k] hb hbl rfl); clear hb hbl) | (go_at_call 139; refine (BC_WriteByte w.heap.size w.heap.size (Lib.byteCells (escL a1 (a0.data.toList.take k))) 92 _ HJ.out.a (by rw [Lib.byteCells_length]; have := HL.out; omega) HJ.out.b.size).mono ?_; rintro e w1 ⟨rfl, hb, hbl⟩; have HM := Aside0.mk (HJ.out.step 92 hb hbl rfl); clear hb hbl))
          go_roundw
          case rel => exact ⟨k + 1, by omega, by go_num, ⟨by rw [HST.out]; have := HQ.out; rw [List.append_assoc] at this; exact this⟩⟩
          case measure => exact measE (by with_reducible first | assumption | rfl) hlt
        · rw [if_neg hI] at hst
          have HST := Aside0.mk hst
          clear hst
          have hIb : decide (0 ≤ Lib.indexByte a1.data.toList a0[k]) = false := decide_eq_false hI
          clear hI
          go_wp2_with (first | (go_at_call 138; refine (strings_IndexByte.calls a1 _ _ _ hIx).mono ?_; rintro e w' ⟨rfl, ⟨nd, rfl⟩⟩; have HJ := Aside0.mk (HI.out.drewN nd)) | (go_at_call 139; refine (BC_WriteByte w.heap.size w.heap.size (Lib.byteCells (escL a1 (a0.data.toList.take k))) _ _ HJ.out.a (by rw [Lib.byteCells_length]; have := HL.out; omega) HJ.out.b.size).mono ?_; rintro e w1 ⟨rfl, hb, hbl⟩; have HQ := Aside0.mk (HJ.out.step a0[k] hb hbl rfl); clear hb hbl))
          go_roundw
          case rel => exact ⟨k + 1, by omega, by go_num, ⟨by rw [HST.out]; exact HQ.out⟩⟩
          case measure => exact measE (by with_reducible first | assumption | rfl) hlt
      · obtain rfl : k = a0.size := by omega
        have HE := Aside0.mk (show a0.data.toList.take a0.size = a0.data.toList from by rw [List.take_of_length_le]; simp)
        by_cases hn : escL a1 (a0.data.toList.take a0.size) = []
        · obtain ⟨p, hbk⟩ := HI.out.n hn
          have HK := Aside0.mk hbk
          have HN := Aside0.mk hn
          clear hbk hn
          go_wp2_with (first | (go_at_call 140; refine (BC_String_nil w.heap.size w.heap.size p _ HK.out).mono ?_; rintro e w2 ⟨rfl, hbl⟩; have HB2 := Aside0.mk (below_stepE HI.out.b hbl); clear hbl))
          go_ret
          exact ⟨by have := HN.out; rw [HE.out] at this; rw [this]; rfl, HB2.out⟩
        · have HN := Aside0.mk hn
          clear hn
          go_wp2_with (first | (go_at_call 140; refine (BC_String w.heap.size w.heap.size (escL a1 (a0.data.toList.take a0.size)) _ HI.out.a HN.out).mono ?_; rintro e w2 ⟨rfl, hbl⟩; have HB2 := Aside0.mk (below_stepE HI.out.b hbl); clear hbl))
          go_ret
          exact ⟨by rw [HE.out]; rfl, HB2.out⟩
  · rw [if_neg hs] at h; exact absurd h (by simp)

/-! ### strings_Join: function 115 -/
/-! ### strings.Builder: WriteString, Grow (turned from the shelf's walks) -/
set_option maxHeartbeats 2000000 in
set_option maxRecDepth 100000 in
theorem BC_Builder_WriteString (B b : Nat) (bs : List Value) (s : ByteArray) (w : World) (h : Lib.IsBuilder 166 5 B b bs w) (hlen : bs.length + s.size ≤ 140737488355328) (hBw : B ≤ w.heap.size) :
    Calls Try.prog 142 #[.pointer (some ⟨b, 0, none⟩), .string s] w fun e w' => e = .returned (.tuple #[.int .i64 s.size, .nilIface]) ∧ (Lib.BuilderAt 166 5 B b (.pointer (some ⟨b, 0, none⟩)) (bs ++ Lib.strCells s) w' ∧ Below B w w') := by
  obtain ⟨i0, hi, hz0, hz1, hz2⟩ := info_parts (show (Try.prog.info? 5).map (fun i => (i.zero, i.size, i.bytes)) = some (some (.int .u8 0), 1, 1) by kernel_rfl)
  have mixed : Try.prog.follows .mixedOrders = true := by kernel_rfl
  have u72 := Try.underlying166
  have u70 := Try.underlying164
  have u37 := Try.underlying109
  have u3 := Try.underlying3
  have u9 := Try.underlying9
  have u4 := Try.underlying4
  have u164 := Try.underlying169
  have u5 := Try.underlying5
  have e240 : ∀ args w, (callFunc 157 args).run Try.prog w = .ok (.enter 157 args) w := enters_of Try.func157 (by kernel_rfl) rfl
  go_enter Try.func142, Try.ntmps142
  go_wp2_with (go_at_fn 157; refine (BC_copyCheck B b bs _ h).mono ?_)
  rintro e w1 ⟨rfl, h1, hb1⟩
  obtain ⟨hB, v, hbk, hown, hne⟩ := h1
  have c0 : w1.cell? ⟨b, 0, none⟩ = some (.pointer (some ⟨b, 0, none⟩)) := by rw [Lib.cell_of_heap hbk]; rfl
  have c1 : w1.cell? ⟨b, 1, none⟩ = some v := by rw [Lib.cell_of_heap hbk]; rfl
  go_wp2_with (at_builtin; refine Lib.wpList_append_own_string _ rfl _ _ 109 9 rfl B 5 i0 Try.underlying109 Try.underlying9 hi hz0 hz1 hz2 _ _ _ rfl hown s rfl ?c3 ?c4 ?c5 ?_)
  case c3 => unfold maxLen; omega
  case c4 => omega
  case c5 => have := hb1.size; omega
  intro v' w2 hown' hgrow _
  have hlt : b < w1.heap.size := by
    rcases Nat.lt_or_ge b w1.heap.size with h' | h'
    · exact h'
    · simp [Array.getElem?_eq_none h'] at hbk
  have hb2 : w2.heap[b]? = some (.cells #[.pointer (some ⟨b, 0, none⟩), v] 166 (0, 0)) := by
    rw [hgrow.block b hlt (fun e => hne e.symm)]
    exact hbk
  have d0 : w2.cell? ⟨b, 0, none⟩ = some (.pointer (some ⟨b, 0, none⟩)) := by rw [Lib.cell_of_heap hb2]; rfl
  have d1 : w2.cell? ⟨b, 1, none⟩ = some v := by rw [Lib.cell_of_heap hb2]; rfl
  have f1 : w2.frozen? ⟨b, 1, none⟩ = false := Lib.frozen_of_heap hb2 1
  obtain ⟨ao, n', cap, rfl⟩ : ∃ ao n' cap, v' = .slice ao n' cap := by
    rcases hown'.2 with ⟨hv, _⟩ | ⟨g, cap, cur, hv, _⟩
    · exact ⟨_, _, _, hv⟩
    · exact ⟨_, _, _, hv⟩
  go_wp2
  go_ret2
  refine ⟨rfl, ?_, ?_⟩
  · exact Lib.BuilderAt.put (T := 166) (e := 5) hB hb2 (bs' := bs ++ Lib.strCells s) (by simpa [Lib.strCells_length] using hown') (by decide)
  · exact (hb1.grown hgrow (by have := hb1.size; omega) (fun k hk => (hown.lt k hk).1)).setCell (p := ⟨b, 1, none⟩) hB _
theorem BC_unsafeString_none (W : World) (q : Option Addr) : (Builtin.unsafeString_ #[181, 3] 9 #[.pointer q, .int .i64 0]).run Try.prog W = .ok (.string .empty) W :=
  Lib.run_unsafeString_none W _ _ _ q
set_option maxHeartbeats 2000000 in
set_option maxRecDepth 100000 in
theorem BC_Builder_String_noroom (B b g : Nat) (p : Value) (cur : Array Value) (w : World) (hBw : B ≤ w.heap.size) (hbk : w.heap[b]? = some (.cells #[p, .slice (some ⟨g, 0, none⟩) 0 0] 166 (0, 0))) (hg : w.heap[g]? = some (.cells cur 5 (0, 0))) :
    Calls Try.prog 140 #[.pointer (some ⟨b, 0, none⟩)] w fun e w' => e = .returned (.string ⟨#[]⟩) ∧ Below B w w' := by
  have hUS := BC_unsafeString_none
  have hlt : b < w.heap.size := by
    rcases Nat.lt_or_ge b w.heap.size with h' | h'
    · exact h'
    · simp [Array.getElem?_eq_none h'] at hbk
  have c1 : w.drew.cell? ⟨b, 1, none⟩ = some (.slice (some ⟨g, 0, none⟩) 0 0) := by
    have : w.drew.heap[b]? = some (.cells #[p, .slice (some ⟨g, 0, none⟩) 0 0] 166 (0, 0)) := hbk
    rw [Lib.cell_of_heap this]; rfl
  have hSD : (Builtin.unsafeSliceData_ #[109] 181 #[.slice (some ⟨g, 0, none⟩) 0 0]).run Try.prog w.drew = .ok (.pointer (some ⟨w.drew.heap.size, 0, none⟩)) (w.drew.alloc (.view ⟨g, 0, none⟩ 5)) :=
    Lib.run_unsafeSliceData_zero w.drew _ _ 5 Try.underlying181 ⟨g, 0, none⟩ 0 (5, cur.size) (by have hg' : w.drew.heap[g]? = some (.cells cur 5 (0, 0)) := hg; simp [World.shape?, hg'])
  have c2 : (w.drew.alloc (.view ⟨g, 0, none⟩ 5)).cell? ⟨b, 1, none⟩ = some (.slice (some ⟨g, 0, none⟩) 0 0) := by
    have : (w.drew.alloc (.view ⟨g, 0, none⟩ 5)).heap[b]? = _ := (Lib.alloc_old w.drew _ b hlt).trans hbk
    rw [Lib.cell_of_heap this]; rfl
  -- (the same fact as the how-to's newer walk spells the world; and of w itself, to which the elder walk comes down)
  have c3 : (w.alloc (.view ⟨g, 0, none⟩ 5)).drew.cell? ⟨b, 1, none⟩ = some (.slice (some ⟨g, 0, none⟩) 0 0) := c2
  have c0 : w.cell? ⟨b, 1, none⟩ = some (.slice (some ⟨g, 0, none⟩) 0 0) := c1
  have mixed : Try.prog.follows .mixedOrders = true := by kernel_rfl
  have u72 := Try.underlying166
  have u70 := Try.underlying164
  have u37 := Try.underlying109
  have u127 := Try.underlying181
  have u3 := Try.underlying3
  have u9 := Try.underlying9
  have u5 := Try.underlying5
  go_enter Try.func140, Try.ntmps140
  go_wp2
  go_region_o
  all_goals (go_wp2; go_ret; exact ⟨rfl, (Below.drew (Below.refl B w)).alloc hBw _⟩)
set_option maxHeartbeats 2000000 in
set_option maxRecDepth 100000 in
theorem BC_Builder_String_room (B b g cap : Nat) (p : Value) (w : World) (hc0 : cap ≠ 0) (hbk : w.heap[b]? = some (.cells #[p, .slice (some ⟨g, 0, none⟩) 0 cap] 166 (0, 0))) :
    Calls Try.prog 140 #[.pointer (some ⟨b, 0, none⟩)] w fun e w' => e = .returned (.string ⟨#[]⟩) ∧ Below B w w' := by
  have hUS := BC_unsafeString_none
  have c1 : w.drew.cell? ⟨b, 1, none⟩ = some (.slice (some ⟨g, 0, none⟩) 0 cap) := by
    have : w.drew.heap[b]? = some (.cells #[p, .slice (some ⟨g, 0, none⟩) 0 cap] 166 (0, 0)) := hbk
    rw [Lib.cell_of_heap this]; rfl
  have hSD : (Builtin.unsafeSliceData_ #[109] 181 #[.slice (some ⟨g, 0, none⟩) 0 cap]).run Try.prog w.drew = .ok (.pointer (some ⟨g, 0, none⟩)) w.drew :=
    Lib.run_unsafeSliceData_row _ _ _ _ _ _ hc0
  clear hc0
  have mixed : Try.prog.follows .mixedOrders = true := by kernel_rfl
  have u72 := Try.underlying166
  have u70 := Try.underlying164
  have u37 := Try.underlying109
  have u127 := Try.underlying181
  have u3 := Try.underlying3
  have u9 := Try.underlying9
  have u5 := Try.underlying5
  go_enter Try.func140, Try.ntmps140
  go_wp2
  go_region_o
  all_goals (go_wp2; go_ret; exact ⟨rfl, Below.drew (Below.refl B w)⟩)
theorem BC_Builder_String_empty (B b : Nat) (w : World) (h : Lib.IsBuilder 166 5 B b [] w) (hBw : B ≤ w.heap.size) :
    Calls Try.prog 140 #[.pointer (some ⟨b, 0, none⟩)] w fun e w' => e = .returned (.string ⟨#[]⟩) ∧ Below B w w' := by
  obtain ⟨p, hB, v, hbk, hown, hne⟩ : ∃ p, Lib.BuilderAt 166 5 B b p [] w := by
    rcases h with h | h
    · exact ⟨_, h⟩
    · exact ⟨_, h⟩
  rcases hown.2 with ⟨rfl, _⟩ | ⟨g, cap, cur, rfl, hbg, hg, _, _, _, _⟩
  · exact BC_String_nil B b p w hbk
  · by_cases hc0 : cap = 0
    · subst hc0
      exact BC_Builder_String_noroom B b g p cur w hBw hbk hg
    · exact BC_Builder_String_room B b g cap p w hc0 hbk
theorem BC_Builder_String_any (B b : Nat) (l : List UInt8) (w : World) (h : Lib.IsBuilder 166 5 B b (Lib.byteCells l) w) (hBw : B ≤ w.heap.size) :
    Calls Try.prog 140 #[.pointer (some ⟨b, 0, none⟩)] w fun e w' => e = .returned (.string ⟨l.toArray⟩) ∧ Below B w w' := by
  cases l with
  | nil => exact BC_Builder_String_empty B b w h hBw
  | cons x r => exact BC_String B b (x :: r) w h (by simp)
set_option maxHeartbeats 2000000 in
set_option maxRecDepth 1000000 in
theorem BC_Builder_grow_fresh (B b n : Nat) (w : World) (hB : B ≤ b) (hbk : w.heap[b]? = some (.cells #[.pointer (some ⟨b, 0, none⟩), .slice none 0 0] 166 (0, 0))) (hBw : B ≤ w.heap.size) (hn : n ≤ 281474976710656) :
    Calls Try.prog 158 #[.pointer (some ⟨b, 0, none⟩), .int .i64 n] w fun e w' => e = .returned (.tuple #[]) ∧ (Lib.BuilderAt 166 5 B b (.pointer (some ⟨b, 0, none⟩)) [] w' ∧ Below B w w') := by
  obtain ⟨cs, hrun, hle, hmax⟩ := Lib.run_makeNoZero (P := Try.prog) w.drew #[3] 109 5 Try.underlying109 n hn
  have hw : IntKind.i64.wrap (IntKind.i64.wrap 0 + (n : Int)) = n := by
    rw [IntKind.wrap_i64, IntKind.wrap_i64]
    omega
  have hcall : (callFunc 166 #[.int .i64 (IntKind.i64.wrap (IntKind.i64.wrap 0 + (n : Int)))]).run Try.prog w.drew = .ok (.value (.slice (some ⟨w.drew.heap.size, 0, none⟩) n cs.size)) (w.drew.drew.drew.alloc (.cells cs 5)) := by
    rw [hw, run_callFunc_extern Try.func166 (by kernel_rfl) (by kernel_rfl) (by kernel_rfl) (e := Extern.BytealgMakeNoZero.makeNoZero #[3] #[109]) (by kernel_rfl), hrun]
    rfl
  have c1 : w.drew.cell? ⟨b, 1, none⟩ = some (.slice none 0 0) := by
    have : w.drew.heap[b]? = _ := hbk
    rw [Lib.cell_of_heap this]; rfl
  have c2 : (w.alloc (.cells cs 5)).cell? ⟨b, 1, none⟩ = some (.slice none 0 0) := by
    have hlt : b < w.heap.size := by
      rcases Nat.lt_or_ge b w.heap.size with h' | h'
      · exact h'
      · simp [Array.getElem?_eq_none h'] at hbk
    have : (w.alloc (.cells cs 5)).heap[b]? = _ := (Lib.alloc_old w _ b hlt).trans hbk
    rw [Lib.cell_of_heap this]; rfl
  have f2 : (w.alloc (.cells cs 5)).frozen? ⟨b, 1, none⟩ = false := by
    have hlt : b < w.heap.size := by
      rcases Nat.lt_or_ge b w.heap.size with h' | h'
      · exact h'
      · simp [Array.getElem?_eq_none h'] at hbk
    exact Lib.frozen_of_heap ((Lib.alloc_old w _ b hlt).trans hbk) 1
  have hcopy : ∀ W : World, (Builtin.copy_ #[109, 109] 3 #[.slice (some ⟨w.heap.size, 0, none⟩) 0 cs.size, .slice none 0 0]).run Try.prog W = .ok (goInt 0) W :=
    fun W => run_copy_none W 109 109 3 5 _ _ 0 cs.size 0 0 Try.underlying109 (show (Try.prog.info? 5).map (·.size) = some 1 by kernel_rfl) rfl
  clear hw
  have mixed : Try.prog.follows .mixedOrders = true := by kernel_rfl
  have u72 := Try.underlying166
  have u70 := Try.underlying164
  have u37 := Try.underlying109
  have u3 := Try.underlying3
  have u5 := Try.underlying5
  go_enter Try.func158, Try.ntmps158
  go_wp2
  have hfin := Lib.grown_fresh (T := 166) (e := 5) (cs := cs) hB hbk hBw (hmax (by unfold maxLen; omega)) (by decide)
  go_region_o
  all_goals (go_wp2; go_end0; exact ⟨rfl, hfin⟩)
set_option maxHeartbeats 2000000 in
set_option maxRecDepth 1000000 in
theorem BC_Builder_Grow_fresh (B b n : Nat) (w : World) (hB : B ≤ b) (hbk : w.heap[b]? = some (.cells #[.pointer none, .slice none 0 0] 166 (0, 0))) (hBw : B ≤ w.heap.size) (hn : n ≤ 281474976710656) :
    Calls Try.prog 141 #[.pointer (some ⟨b, 0, none⟩), .int .i64 n] w fun e w' => e = .returned (.tuple #[]) ∧ (Lib.BuilderAt 166 5 B b (.pointer (some ⟨b, 0, none⟩)) [] w' ∧ Below B w w') := by
  have hbk1 : (w.setCell ⟨b, 0, none⟩ (.pointer (some ⟨b, 0, none⟩))).heap[b]? = some (.cells #[.pointer (some ⟨b, 0, none⟩), .slice none 0 0] 166 (0, 0)) := by
    simp [World.setCell, Array.getElem?_modify, hbk]
  have c1 : (w.setCell ⟨b, 0, none⟩ (.pointer (some ⟨b, 0, none⟩))).cell? ⟨b, 1, none⟩ = some (.slice none 0 0) := by rw [Lib.cell_of_heap hbk1]; rfl
  have hb1 : Below B w (w.setCell ⟨b, 0, none⟩ (.pointer (some ⟨b, 0, none⟩))) := (Below.refl B w).setCell (p := ⟨b, 0, none⟩) hB _
  have mixed : Try.prog.follows .mixedOrders = true := by kernel_rfl
  have u72 := Try.underlying166
  have u70 := Try.underlying164
  have u37 := Try.underlying109
  have u3 := Try.underlying3
  have u9 := Try.underlying9
  have u4 := Try.underlying4
  have u164 := Try.underlying169
  have u5 := Try.underlying5
  have e240 : ∀ args w, (callFunc 157 args).run Try.prog w = .ok (.enter 157 args) w := enters_of Try.func157 (by kernel_rfl) rfl
  have e241 : ∀ args w, (callFunc 158 args).run Try.prog w = .ok (.enter 158 args) w := enters_of Try.func158 (by kernel_rfl) rfl
  go_enter Try.func141, Try.ntmps141
  have hU : Lib.BuilderAt 166 5 B b (.pointer (some ⟨b, 0, none⟩)) [] (w.setCell ⟨b, 0, none⟩ (.pointer (some ⟨b, 0, none⟩))) := ⟨hB, .slice none 0 0, hbk1, World.ownsRow_nil _ _ _ _, by simp [Value.ownBlock]⟩
  have c1' : (w.setCell ⟨b, 0, none⟩ (.pointer (some ⟨b, 0, none⟩))).drew.cell? ⟨b, 1, none⟩ = some (.slice none 0 0) := c1
  go_wp2_with (go_at_fn 157; refine (BC_copyCheck_fresh b w (by rw [Lib.cell_of_heap hbk]; rfl) (by simp [World.shape?, hbk]) (Lib.frozen_of_heap hbk 0)).mono ?_; rintro e w' ⟨rfl, rfl⟩)
  go_region_o
  all_goals go_wp2_with (go_at_fn 158; refine (BC_Builder_grow_fresh B b n (w.setCell ⟨b, 0, none⟩ (.pointer (some ⟨b, 0, none⟩))).drew hB hbk1 (by simpa [World.setCell, World.drew, -World.drew_eq] using hBw) hn).mono ?_; rintro e w' ⟨rfl, h1, h2⟩)
  all_goals first
    | (go_end0; exact ⟨rfl, h1, hb1.drew.trans h2⟩)
    | (go_end0; exact ⟨rfl, hU.drew, hb1.drew⟩)
/-! ### strings.Join (turned from the shelf's walk) -/
theorem BC_hidJ {p : Prop} (h : p) : Hid p := h
theorem BC_strings_Join_none (a : Option Addr) (c : Nat) (sep : ByteArray) (w : World) :
    Calls Try.prog 115 #[.slice a 0 c, .string sep] w fun e w' => e = .returned (.string ⟨#[]⟩) ∧ w' = w := by
  have mixed : Try.prog.follows .mixedOrders = true := by kernel_rfl
  have u72 := Try.underlying166
  have u70 := Try.underlying164
  have u37 := Try.underlying109
  have u127 := Try.underlying181
  have u3 := Try.underlying3
  have u9 := Try.underlying9
  have u4 := Try.underlying4
  have u164 := Try.underlying169
  have u31 := Try.underlying67
  have u5 := Try.underlying5
  have e240 : ∀ args w, (callFunc 157 args).run Try.prog w = .ok (.enter 157 args) w := enters_of Try.func157 (by kernel_rfl) rfl
  have e241 : ∀ args w, (callFunc 158 args).run Try.prog w = .ok (.enter 158 args) w := enters_of Try.func158 (by kernel_rfl) rfl
  have e165 : ∀ args w, (callFunc 141 args).run Try.prog w = .ok (.enter 141 args) w := enters_of Try.func141 (by kernel_rfl) rfl
  have e166 : ∀ args w, (callFunc 142 args).run Try.prog w = .ok (.enter 142 args) w := enters_of Try.func142 (by kernel_rfl) rfl
  have e169 : ∀ args w, (callFunc 140 args).run Try.prog w = .ok (.enter 140 args) w := enters_of Try.func140 (by kernel_rfl) rfl
  go_enter Try.func115, Try.ntmps115
  go_wp2
  go_ret
  exact ⟨rfl, rfl⟩
theorem BC_strings_Join_one (bk o c : Nat) (x sep : ByteArray) (w : World) (hc : w.cell? ⟨bk, o, none⟩ = some (.string x)) :
    Calls Try.prog 115 #[.slice (some ⟨bk, o, none⟩) 1 c, .string sep] w fun e w' => e = .returned (.string x) ∧ w' = w := by
  have mixed : Try.prog.follows .mixedOrders = true := by kernel_rfl
  have u72 := Try.underlying166
  have u70 := Try.underlying164
  have u37 := Try.underlying109
  have u127 := Try.underlying181
  have u3 := Try.underlying3
  have u9 := Try.underlying9
  have u4 := Try.underlying4
  have u164 := Try.underlying169
  have u31 := Try.underlying67
  have u5 := Try.underlying5
  have e240 : ∀ args w, (callFunc 157 args).run Try.prog w = .ok (.enter 157 args) w := enters_of Try.func157 (by kernel_rfl) rfl
  have e241 : ∀ args w, (callFunc 158 args).run Try.prog w = .ok (.enter 158 args) w := enters_of Try.func158 (by kernel_rfl) rfl
  have e165 : ∀ args w, (callFunc 141 args).run Try.prog w = .ok (.enter 141 args) w := enters_of Try.func141 (by kernel_rfl) rfl
  have e166 : ∀ args w, (callFunc 142 args).run Try.prog w = .ok (.enter 142 args) w := enters_of Try.func142 (by kernel_rfl) rfl
  have e169 : ∀ args w, (callFunc 140 args).run Try.prog w = .ok (.enter 140 args) w := enters_of Try.func140 (by kernel_rfl) rfl
  go_enter Try.func115, Try.ntmps115
  go_wp2
  go_ret
  exact ⟨rfl, rfl⟩
set_option maxHeartbeats 4000000 in
set_option maxRecDepth 100000 in
theorem BC_strings_Join_many (bk o c : Nat) (xs : List ByteArray) (sep : ByteArray) (w : World)
    (hcells : ∀ (j : Nat) x, xs[j]? = some x → w.cell? ⟨bk, o + j, none⟩ = some (.string x))
    (hbk : bk < w.heap.size) (h2 : 2 ≤ xs.length) (hN : xs.length ≤ 140737488355328) (hcap : xs.length ≤ c)
    (hlen : (Lib.join (xs.map (·.data.toList)) sep.data.toList).length ≤ 140737488355328) :
    Calls Try.prog 115 #[.slice (some ⟨bk, o, none⟩) xs.length c, .string sep] w fun e w' => e = .returned (.string ⟨(Lib.join (xs.map (·.data.toList)) sep.data.toList).toArray⟩) ∧ Below w.heap.size w w' := by
  have HC := BC_hidJ hcells
  clear hcells
  -- the lengths
  obtain ⟨x0, r, hxs⟩ : ∃ x0 r, xs = x0 :: r := by
    cases xs with
    | nil => simp at h2
    | cons a t => exact ⟨a, t, rfl⟩
  have hjl : sep.size * (xs.length - 1) + Lib.lens (xs.map (·.data.toList)) ≤ 140737488355328 := by
    have := Lib.join_length x0.data.toList (r.map (·.data.toList)) sep.data.toList
    rw [hxs] at hlen ⊢
    simp only [List.map_cons] at hlen ⊢
    rw [this, List.length_map] at hlen
    rw [Lib.size_eq, List.length_cons, Nat.add_sub_cancel]
    exact hlen
  have hmul : sep.size * (xs.length - 1) ≤ 140737488355328 := by omega
  generalize hM : sep.size * (xs.length - 1) = M at hjl hmul
  have hcast : ((xs.length : Int) - 1) = ((xs.length - 1 : Nat) : Int) := by omega
  have hlt : sep.size < 9223372036854775807 / (xs.length - 1) := by
    have : sep.size + 1 ≤ 9223372036854775807 / (xs.length - 1) := by
      rw [Nat.le_div_iff_mul_le (by omega), Nat.add_mul, hM]
      omega
    omega
  have hdv : ¬ (9223372036854775807 / ((xs.length : Int) - 1) ≤ (sep.size : Int)) := by
    have e : (9223372036854775807 : Int) / ((xs.length - 1 : Nat) : Int) = ((9223372036854775807 / (xs.length - 1) : Nat) : Int) := IntWalk.up_div (x := 9223372036854775807) rfl rfl
    rw [hcast, e]
    generalize 9223372036854775807 / (xs.length - 1) = q at hlt
    omega
  have hprod : wrap64 ((sep.size : Int) * ((xs.length : Int) - 1)) = (M : Int) := by
    have e : (sep.size : Int) * ((xs.length - 1 : Nat) : Int) = ((sep.size * (xs.length - 1) : Nat) : Int) := IntWalk.up_mul rfl rfl
    rw [hcast, e, hM]
    exact IntWalk.wrap64_in _ ⟨by omega, by omega⟩
  have hM0 : sep.size = 0 → M = 0 := fun h => by rw [← hM, h, Nat.zero_mul]
  clear hlt hcast
  have hne0 : ((xs.length : Int) == 0) = false := beq_eq_false_iff_ne.2 (by omega)
  have hne1 : ((xs.length : Int) == 1) = false := beq_eq_false_iff_ne.2 (by omega)
  have Hxs := BC_hidJ hxs
  have Hlen := BC_hidJ hlen
  clear hxs hlen
  have mixed : Try.prog.follows .mixedOrders = true := by kernel_rfl
  have u72 := Try.underlying166
  have u70 := Try.underlying164
  have u37 := Try.underlying109
  have u127 := Try.underlying181
  have u3 := Try.underlying3
  have u9 := Try.underlying9
  have u4 := Try.underlying4
  have u164 := Try.underlying169
  have u31 := Try.underlying67
  have u5 := Try.underlying5
  have e240 : ∀ args w, (callFunc 157 args).run Try.prog w = .ok (.enter 157 args) w := enters_of Try.func157 (by kernel_rfl) rfl
  have e241 : ∀ args w, (callFunc 158 args).run Try.prog w = .ok (.enter 158 args) w := enters_of Try.func158 (by kernel_rfl) rfl
  have e165 : ∀ args w, (callFunc 141 args).run Try.prog w = .ok (.enter 141 args) w := enters_of Try.func141 (by kernel_rfl) rfl
  have e166 : ∀ args w, (callFunc 142 args).run Try.prog w = .ok (.enter 142 args) w := enters_of Try.func142 (by kernel_rfl) rfl
  have e169 : ∀ args w, (callFunc 140 args).run Try.prog w = .ok (.enter 140 args) w := enters_of Try.func140 (by kernel_rfl) rfl
  go_enter Try.func115, Try.ntmps115
  go_wp2_with fail
  all_goals (
    go_loop [5, 41] (fun n i => ∃ k : Nat, k ≤ xs.length ∧ i = .int .i64 k ∧ n = .int .i64 ((M + Lib.lens ((xs.map (·.data.toList)).take k) : Nat) : Int)) (fun _ i => xs.length - (intOf i).toNat)
    case atStart => exact ⟨0, Nat.zero_le _, rfl, by first | (simp [Lib.lens]; done) | (have := hM0 (by omega); simp [Lib.lens, this])⟩
    case round =>
      obtain ⟨k, hk, rfl, rfl⟩ := hrel
      by_cases hkn : k < xs.length
      · obtain ⟨x, hx⟩ : ∃ x, xs[k]? = some x := ⟨xs[k], List.getElem?_eq_getElem hkn⟩
        have hc := HC.out k x hx
        have hstep := Lib.lens_take_succ (xs.map (·.data.toList)) k x.data.toList (by simp [hx])
        have hbound : Lib.lens ((xs.map (·.data.toList)).take (k + 1)) ≤ Lib.lens (xs.map (·.data.toList)) := Lib.lens_take_le _ _
        rw [← Lib.size_eq] at hstep
        generalize hA1 : Lib.lens ((xs.map (·.data.toList)).take (k + 1)) = A1 at hstep hbound
        generalize Lib.lens ((xs.map (·.data.toList)).take k) = A0 at hstep
        have HA1 := BC_hidJ hA1
        clear hA1
        go_wp2
        exact ⟨⟨k + 1, by omega, by go_num, by rw [HA1.out]; refine congrArg _ ?_; omega⟩, by simp [intOf]; omega⟩
      · have hke : k = xs.length := by omega
        subst hke
        have hall : (xs.map (·.data.toList)).take xs.length = xs.map (·.data.toList) := List.take_of_length_le (by simp)
        rw [hall]
        generalize hT : Lib.lens (xs.map (·.data.toList)) = T at hjl
        have HT := BC_hidJ hT
        clear hT hall
        go_wp2_with fail
        have hMT : ((M : Int) + (T : Int)) = ((M + T : Nat) : Int) := by omega
        rw [hMT]
        refine (BC_Builder_Grow_fresh w.heap.size w.heap.size (M + T) _ (Nat.le_refl _) (heap_alloc_new w _) (by simp) (by omega)).mono ?_
        rintro e w1 ⟨rfl, h1, hb1⟩
        have hb1' : Below w.heap.size w w1 := ((Below.refl w.heap.size w).alloc (Nat.le_refl _) _).trans hb1
        -- the first element
        have hx0 : xs[0]? = some x0 := by rw [Hxs.out]; rfl
        have hc0 : w1.cell? ⟨bk, o, none⟩ = some (.string x0) := by
          rw [hb1'.cell (p := ⟨bk, o, none⟩) hbk]
          exact HC.out 0 x0 hx0
        have H1 := BC_hidJ (Or.inr h1 : Lib.IsBuilder 166 5 w.heap.size w.heap.size [] w1)
        have Hb1 := BC_hidJ hb1'
        have hBw1 : w.heap.size ≤ w1.heap.size := hb1'.size
        clear h1 hb1 hb1' hMT
        -- what the builder holds behind k rounds of the second loop; and that it is never longer than the whole
        have hwhole : Lib.join (xs.map (·.data.toList)) sep.data.toList = x0.data.toList ++ Lib.joinTail sep.data.toList (r.map (·.data.toList)) := by
          rw [Hxs.out, List.map_cons, Lib.join_cons]
        have hCle : ∀ k, (x0.data.toList ++ Lib.joinTail sep.data.toList ((r.map (·.data.toList)).take k)).length ≤ 140737488355328 := fun k => by
          have h1 := Hlen.out
          rw [hwhole, List.length_append] at h1
          have h2 := Lib.joinTail_take_le sep.data.toList (r.map (·.data.toList)) k
          rw [List.length_append]
          omega
        have HCle := BC_hidJ hCle
        have Hwhole := BC_hidJ hwhole
        clear hCle hwhole
        go_wp2_with fail
        refine (BC_Builder_WriteString w.heap.size w.heap.size [] x0 w1 H1.out (by have := HCle.out 0; simp [Lib.joinTail] at this ⊢; omega) hBw1).mono ?_
        rintro e w2 ⟨rfl, h2', hb2⟩
        have hstart : ([] : List Value) ++ Lib.strCells x0 = Lib.byteCells (x0.data.toList ++ Lib.joinTail sep.data.toList ((r.map (·.data.toList)).take 0)) := by
          simp [Lib.joinTail, Lib.strCells_eq]
        rw [hstart] at h2'
        have H2 := BC_hidJ (Or.inr h2' : Lib.IsBuilder 166 5 w.heap.size w.heap.size _ w2)
        have Hb2 := BC_hidJ (Hb1.out.trans hb2)
        clear h2' hb2 hstart
        have hrl : r.length = xs.length - 1 := by rw [Hxs.out]; simp
        go_wp2_with fail
        go_loopw [65] (fun i wr => ∃ k : Nat, k ≤ r.length ∧ i = .int .i64 k ∧ Hid (Lib.IsBuilder 166 5 w.heap.size w.heap.size (Lib.byteCells (x0.data.toList ++ Lib.joinTail sep.data.toList ((r.map (·.data.toList)).take k))) wr) ∧ Hid (Below w.heap.size w wr)) (fun i _ => r.length - (intOf i).toNat)
        case atStart => exact ⟨0, Nat.zero_le _, rfl, H2, Hb2⟩
        case round =>
          obtain ⟨k, hk', rfl, HB, HW⟩ := hrel
          by_cases hkr : k < r.length
          · obtain ⟨y, hy⟩ : ∃ y, r[k]? = some y := ⟨r[k], List.getElem?_eq_getElem hkr⟩
            have hxy : xs[k + 1]? = some y := by rw [Hxs.out]; simpa using hy
            have hcy : wr.cell? ⟨bk, o + 1 + k, none⟩ = some (.string y) := by
              rw [HW.out.cell (p := ⟨bk, o + 1 + k, none⟩) hbk, show o + 1 + k = o + (k + 1) by omega]
              exact HC.out (k + 1) y hxy
            have hBw : w.heap.size ≤ wr.heap.size := HW.out.size
            have hnext : Lib.byteCells (x0.data.toList ++ Lib.joinTail sep.data.toList ((r.map (·.data.toList)).take k)) ++ Lib.strCells sep ++ Lib.strCells y = Lib.byteCells (x0.data.toList ++ Lib.joinTail sep.data.toList ((r.map (·.data.toList)).take (k + 1))) := by
              rw [Lib.joinTail_take_succ sep.data.toList (r.map (·.data.toList)) k y.data.toList (by simp [hy]), Lib.strCells_eq, Lib.strCells_eq, ← Lib.byteCells_append, ← Lib.byteCells_append, List.append_assoc, List.append_assoc, List.append_assoc]
            have hl1 := HCle.out (k + 1)
            rw [Lib.joinTail_take_succ sep.data.toList (r.map (·.data.toList)) k y.data.toList (by simp [hy])] at hl1
            simp only [List.length_append, ← Lib.size_eq] at hl1
            have hl0 : (Lib.byteCells (x0.data.toList ++ Lib.joinTail sep.data.toList ((r.map (·.data.toList)).take k))).length = x0.size + (Lib.joinTail sep.data.toList ((r.map (·.data.toList)).take k)).length := by
              rw [Lib.byteCells_length, List.length_append, ← Lib.size_eq]
            generalize (Lib.joinTail sep.data.toList ((r.map (·.data.toList)).take k)).length = J at hl0 hl1
            have Hn := BC_hidJ hnext
            clear hnext hy hxy
            go_wp2_with fail
            refine (BC_Builder_WriteString w.heap.size w.heap.size _ sep wr HB.out (by rw [hl0]; omega) hBw).mono ?_
            rintro e w3 ⟨rfl, h3, hb3⟩
            have hBw3 : w.heap.size ≤ w3.heap.size := Nat.le_trans hBw hb3.size
            have H3 := BC_hidJ h3
            have Hb3 := BC_hidJ hb3
            clear h3 hb3
            go_wp2_with fail
            refine (BC_Builder_WriteString w.heap.size w.heap.size _ y w3 (Or.inr H3.out) (by rw [List.length_append, hl0, Lib.strCells_length]; omega) hBw3).mono ?_
            rintro e w4 ⟨rfl, h4, hb4⟩
            rw [Hn.out] at h4
            have H4 := BC_hidJ (Or.inr h4 : Lib.IsBuilder 166 5 w.heap.size w.heap.size _ w4)
            have Hb4 := BC_hidJ ((HW.out.trans Hb3.out).trans hb4)
            clear h4 hb4
            go_wp2
            exact ⟨⟨k + 1, by omega, by go_num, H4, Hb4⟩, by simp [intOf]; omega⟩
          · have hke : k = r.length := by omega
            subst hke
            have hfull : (r.map (·.data.toList)).take r.length = r.map (·.data.toList) := List.take_of_length_le (by simp)
            have hB' := HB.out
            rw [hfull, ← Hwhole.out] at hB'
            have hBw : w.heap.size ≤ wr.heap.size := HW.out.size
            go_wp2_with fail
            refine (BC_Builder_String_any w.heap.size w.heap.size _ wr hB' hBw).mono ?_
            rintro e w5 ⟨rfl, hb5⟩
            have Hb5 := BC_hidJ (HW.out.trans hb5)
            clear hb5 hB'
            go_wp2
            go_ret
            exact ⟨rfl, Hb5.out⟩)
theorem BC_strings_Join (bk o c : Nat) (xs : List ByteArray) (sep : ByteArray) (w : World)
    (hcells : ∀ (j : Nat) x, xs[j]? = some x → w.cell? ⟨bk, o + j, none⟩ = some (.string x))
    (hbk : bk < w.heap.size) (hN : xs.length ≤ 140737488355328) (hcap : xs.length ≤ c)
    (hlen : (Lib.join (xs.map (·.data.toList)) sep.data.toList).length ≤ 140737488355328) :
    Calls Try.prog 115 #[.slice (some ⟨bk, o, none⟩) xs.length c, .string sep] w fun e w' => e = .returned (.string ⟨(Lib.join (xs.map (·.data.toList)) sep.data.toList).toArray⟩) ∧ Below w.heap.size w w' := by
  match xs, hcells, hN, hcap, hlen with
  | [], _, _, _, _ => exact (BC_strings_Join_none _ c sep w).mono fun e w' ⟨he, hw⟩ => ⟨he, hw ▸ Below.refl _ _⟩
  | [x], hcells, _, _, _ =>
    refine (BC_strings_Join_one bk o c x sep w (hcells 0 x rfl)).mono fun e w' ⟨he, hw⟩ => ⟨?_, hw ▸ Below.refl _ _⟩
    rw [he, List.map_cons, List.map_nil, Lib.join_one, Lib.mk_data]
  | x :: y :: r, hcells, hN, hcap, hlen => exact BC_strings_Join_many bk o c (x :: y :: r) sep w hcells hbk (by simp) hN hcap hlen
def joinB (l : List ByteArray) (sep : ByteArray) : ByteArray := ⟨(Lib.join (l.map (·.data.toList)) sep.data.toList).toArray⟩
def strings_Join.f (l0 : List ByteArray) (a1 : ByteArray) : Option ByteArray := if l0.length ≤ 140737488355328 then (if (joinB l0 a1).size ≤ 140737488355328 then some (joinB l0 a1) else none) else none
theorem strings_Join.calls (A0 : Option Addr) (c0 : Nat) (l0 : List ByteArray) (a1 : ByteArray) (r : ByteArray) (w : World) (hr0 : Kd.C Kd.string w A0 l0.length l0) (hc0 : l0.length ≤ c0) (h : strings_Join.f l0 a1 = some r) :
    Calls Try.prog 115 #[.slice A0 l0.length c0, .string a1] w fun e w' => e = .returned (.string r) ∧ Below w.heap.size w w' := by
  unfold strings_Join.f at h
  by_cases h1 : l0.length ≤ 140737488355328
  · rw [if_pos h1] at h
    by_cases h2 : (joinB l0 a1).size ≤ 140737488355328
    · rw [if_pos h2] at h
      obtain rfl := Option.some.inj h
      by_cases hn : l0 = []
      · subst hn
        refine (BC_strings_Join_none A0 c0 a1 w).mono ?_
        rintro e w' ⟨rfl, rfl⟩
        exact ⟨rfl, Below.refl _ _⟩
      · have h0 : 0 < l0.length := List.length_pos_iff.2 hn
        have hc : ∀ (ad : Addr), A0 = some ad → ∀ (j : Nat) (x : ByteArray), l0[j]? = some x → w.cell? (ad.add j) = some (.string x) := by
          intro ad he j x hx
          obtain ⟨hj, rfl⟩ := List.getElem?_eq_some_iff.1 hx
          obtain ⟨ad', he', hcell⟩ := Kd.at_string hr0 (j : Int) (by omega) (by omega)
          obtain rfl : ad = ad' := Option.some.inj (he.symm.trans he')
          rw [Int.toNat_natCast] at hcell
          rw [hcell]
          unfold rdOf
          rw [Int.toNat_natCast, List.getD_eq_getElem?_getD, List.getElem?_eq_getElem hj]; rfl
        obtain ⟨ad, hA, hz⟩ : ∃ ad, A0 = some ad ∧ (∃ x, w.cell? ad = some (.string x)) := by
          obtain ⟨ad', he', hcell⟩ := Kd.at_string hr0 (0 : Int) (by omega) (by omega)
          exact ⟨ad', he', _, by simpa [Addr.add] using hcell⟩
        obtain ⟨bk, o, sp⟩ := ad
        obtain ⟨x0, hz⟩ := hz
        have hlt := World.block_lt_of_cell? w _ hz
        obtain rfl : sp = none := by
          cases sp with
          | none => rfl
          | some s =>
            unfold World.cell? at hz
            split at hz
            · simp at hz
            · cases hz
        subst hA
        refine (BC_strings_Join bk o c0 l0 a1 w (fun j x hx => ?_) hlt h1 hc0 (by simpa [joinB, ByteArray.size] using h2)).mono ?_
        · have := hc _ rfl j x hx
          unfold Addr.add at this
          split at this
          · rename_i hj; subst hj; exact this
          · exact this
        · rintro e w' ⟨rfl, hb⟩
          exact ⟨rfl, hb⟩
    · rw [if_neg h2] at h; exact absurd h (by simp)
  · rw [if_neg h1] at h; exact absurd h (by simp)

end Go.Proofs.Ytcgiegkcmofhhab.PFnExactReadName
