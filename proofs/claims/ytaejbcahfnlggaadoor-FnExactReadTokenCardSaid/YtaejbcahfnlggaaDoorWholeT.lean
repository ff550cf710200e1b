-- Written for this claim by a program of this session (mkwhole.py): strconv.Atoi by the shelf, impl.ywhole over it.
import Derived.Test.YtaejbcahfnlggaaDoorProg
import Derived.Shelf.Strconv.AtoiAll
import Derived.Shelf.Lay
import Derived.Shelf.LaySoft
import Derived.Shelf.Strconv.Itoa3
import Derived.Lib.AtoiErrMem
import Derived.Lib.ItoaNum
import Derived.Ground.NamesProg
import Derived.WalkKit
import Derived.WalkSmall
import Derived.BigCall
namespace Go.Proofs
open Go.Shelf Go.RowKit Go.Lib Go.Sort
set_option maxHeartbeats 4000000
set_option maxRecDepth 100000
shelf_lay LaysM.n171 Nm 171 at Tryd as Tryd.itoaL
shelf_lay LaysC.n172 Nm 172 at Tryd as Tryd.atoiL
end Go.Proofs
namespace Go.Proofs.YtaejbcahfnlggaaDoor.PT
open Go Go.Proofs Go.Shelf Go.RowKit Go.Lib Go.Sort
set_option maxHeartbeats 4000000
set_option maxRecDepth 100000
/-! strconv.Atoi by the shelf, impl.ywhole over it -/
noncomputable def atoiN (s : ByteArray) : Int := match Lib.atoiAll s.data.toList with
  | .ok v => v | .«syntax» => 0 | .range => Lib.atoiSat s.data.toList
noncomputable def wholeB (s : ByteArray) : Bool := match Lib.atoiAll s.data.toList with
  | .ok v => Lib.itoa v == s.toList | _ => false
def shortB (s : ByteArray) : Bool := decide (s.size ≤ 281474976710656)
theorem itoaW (n : Int) (w : World) (h0 : -9223372036854775808 ≤ n) (h1 : n ≤ 9223372036854775807) (htab : Lib.TabIs Tryd.prog w "internal/strconv.uint64pow10" .u64 Lib.pow10Tab) :
    Calls Tryd.prog 20 #[.int .i64 n] w fun e w' => e = .returned (.string (⟨(Lib.itoa n).toArray⟩ : ByteArray)) ∧ RowKit.Below w.heap.size w w' := by
  refine (Any.strconv_Itoa Tryd.itoaL n h0 h1 w htab).mono ?_
  rintro e w' ⟨rfl, k, os, rfl⟩
  refine ⟨rfl, rfl, rfl, rfl, ?_, fun j hj => ?_⟩
  · simp [Go.Sort.grow, World.drewN]
  · show ((w.drewN k).heap ++ os)[j]? = _
    rw [Array.getElem?_append_left (by simpa [World.drewN] using hj)]
    rfl
theorem atoi_range : ∀ {s : List UInt8} {v : Int}, Lib.atoiAll s = .ok v → -9223372036854775808 ≤ v ∧ v ≤ 9223372036854775807 := by
  intro s v h
  unfold Lib.atoiAll at h
  split at h
  · cases h
  · dsimp only at h
    split at h
    · cases h
    · cases h
    · split at h
      · cases h
      · split at h
        · cases h
        · cases h
          split <;> omega
theorem tab_below {w w' : World} (h : Lib.TabIs Tryd.prog w "internal/strconv.uint64pow10" .u64 Lib.pow10Tab) (hb : RowKit.Below w.heap.size w w') : Lib.TabIs Tryd.prog w' "internal/strconv.uint64pow10" .u64 Lib.pow10Tab := by
  unfold Lib.TabIs World.var? at *
  cases hg : Tryd.prog.globalNamed "internal/strconv.uint64pow10" with
  | none => rw [hg] at h; cases h
  | some g =>
    rw [hg] at h
    simp only [Option.bind_some] at h ⊢
    have hlt : g < w.heap.size := by
      rcases Nat.lt_or_ge g w.heap.size with z | z
      · exact z
      · rw [Array.getElem?_eq_none z] at h; cases h
    rw [hb.block g hlt]; exact h
theorem whole (s : ByteArray) (hlim : s.size ≤ 281474976710656) (ev0 ev1 : Value) (w : World) (hv0 : w.cell? ⟨1, 0, none⟩ = some ev0) (he0 : ev0 = .nilIface ∨ ∃ te pe, ev0 = .iface te pe) (hv1 : w.cell? ⟨2, 0, none⟩ = some ev1) (he1 : ev1 = .nilIface ∨ ∃ te pe, ev1 = .iface te pe) (htab : Lib.TabIs Tryd.prog w "internal/strconv.uint64pow10" .u64 Lib.pow10Tab) :
    Calls Tryd.prog 12 #[.string s] w fun e w' => e = .returned (.tuple #[.int .i64 (atoiN s), .bool (wholeB s)]) ∧ RowKit.Below w.heap.size w w' := by
  cases h : Lib.atoiAll s.data.toList with
  | ok v =>
    have hr : atoiN s = v := by simp only [atoiN, h]
    have hb : wholeB s = (Lib.itoa v == s.toList) := by simp only [wholeB, h]
    rw [hr, hb]
    obtain ⟨r0, r1⟩ := atoi_range h
    go_enter Tryd.func12, Tryd.ntmps12
    go_wp2_with (go_at_call 19; refine (Any.strconv_Atoi_ok Tryd.atoiL s (by omega) v h _).mono ?_; rintro e w1 ⟨rfl, hw⟩)
    have hb1 : RowKit.Below w.heap.size w w1 := by
      rcases hw with rfl | ⟨t, rfl⟩
      · exact Below.refl _ _
      · exact Lib.bytesWorld_below _ _ _
    go_wp2_with (go_at_call 20; refine (itoaW v _ r0 r1 (tab_below htab hb1)).mono ?_; rintro e w2 ⟨rfl, hb2⟩)
    go_ret2
    refine ⟨rfl, hb1.trans (hb2.mono hb1.size)⟩
  | «syntax» =>
    have hr : atoiN s = 0 := by simp only [atoiN, h]
    have hb : wholeB s = false := by simp only [wholeB, h]
    rw [hr, hb]
    go_enter Tryd.func12, Tryd.ntmps12
    go_wp2_with (go_at_call 19; refine (Any.strconv_Atoi_syntax Tryd.atoiL s hlim h ev0 _ ?_ he0).mono ?_)
    · exact hv0
    rintro e W1 ⟨N, rfl, -, -, hb⟩
    go_wp2
    go_ret2
    exact ⟨rfl, hb⟩
  | range =>
    have hr : atoiN s = Lib.atoiSat s.data.toList := by simp only [atoiN, h]
    have hb : wholeB s = false := by simp only [wholeB, h]
    rw [hr, hb]
    go_enter Tryd.func12, Tryd.ntmps12
    go_wp2_with (go_at_call 19; refine (Any.strconv_Atoi_range Tryd.atoiL s hlim h ev1 _ ?_ he1).mono ?_)
    · exact hv1
    rintro e W1 ⟨N, rfl, -, -, hb⟩
    go_wp2
    go_ret2
    exact ⟨rfl, hb⟩
end Go.Proofs.YtaejbcahfnlggaaDoor.PT
