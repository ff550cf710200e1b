-- Written for this claim by a program of this session (mkins.py): some functions of the library, walked.
import Derived.Test.YtaejbcahfnlggaaDoorET
import Derived.Shelf.Abstract
import Derived.Shelf.Lay
import Derived.Shelf.LaySoft
import Derived.Shelf.Strconv.Itoa3
import Derived.Ground.NamesProg
import Derived.WalkSmall
import Derived.Shelf.RegionOpenPlain
import Derived.Lib.Walk
import Derived.Lib.SliceRun
namespace Go.Proofs.YtaejbcahfnlggaaDoor.PT
open Go Go.Proofs Go.RowKit Go.Lib Go.Den
set_option linter.unusedVariables false
set_option linter.unusedSimpArgs false
set_option maxHeartbeats 4000000
set_option maxRecDepth 100000
/-- where a byte stands first -/
theorem idx40 (s : ByteArray) (c : Int) (w : World) : Calls Tryd.prog 40 #[.string s, .int .u8 c] w fun e w' => e = .returned (.int .i64 (idxB s c)) ∧ Go.Den.Below w.heap.size w w' := by
  unfold idxB
  go_enter Tryd.func40, Tryd.ntmps40
  go_wp2
  rw [run_callFunc_extern Tryd.func53 (by kernel_rfl) (by kernel_rfl) (by kernel_rfl) (e := Extern.BytealgIndexByte.indexByte) (by kernel_rfl), Lib.run_indexByteString]
  simp only [Result.andThen]
  rw [Oper.upon_value]
  go_wp2
  go_ret
  exact ⟨rfl, Go.Den.Below.refl _ _⟩
theorem itoaH (n : Int) (w : World) (h0 : -9223372036854775808 ≤ n) (h1 : n ≤ 9223372036854775807) (ht : Tbl E.tb w) : Calls Tryd.prog 20 #[.int .i64 n] w fun e w' => e = .returned (.string (itoaS n)) ∧ Go.Den.Below w.heap.size w w' := by
  have htab : Lib.TabIs Tryd.prog w "internal/strconv.uint64pow10" .u64 Lib.pow10Tab := by
    obtain ⟨cs, ty, fr, hh, hp⟩ := ht 3 _ rfl
    have hp : cs = (Lib.pow10Tab.map fun z => Value.int .u64 z).toArray := hp
    subst hp
    unfold Lib.TabIs World.var?
    rw [show Tryd.prog.globalNamed "internal/strconv.uint64pow10" = some 3 by kernel_rfl]
    simp [hh]
  refine (Any.strconv_Itoa Tryd.itoaL n h0 h1 w htab).mono ?_
  rintro e w' ⟨rfl, k, os, rfl⟩
  refine ⟨rfl, rfl, rfl, rfl, ?_, fun j hj => ?_, Nat.le_add_right _ _⟩
  · simp [Go.Sort.grow, World.drewN]
  · show ((w.drewN k).heap ++ os)[j]? = _
    rw [Array.getElem?_append_left (by simpa [World.drewN] using hj)]
    rfl
theorem armH (A0 : Option Addr) (c : Nat) (l : List Int) (w : World) (hc : ∀ i : Nat, i < l.length → ∃ ad, A0 = some ad ∧ w.cell? (ad.add i) = some (.int .u8 (l.getD i 0))) (hle : l.length ≤ c) (hn : l.length ≤ 20000) :
    Calls Tryd.prog 22 #[.slice A0 l.length c] w fun e w' => e = .returned (.string (armorS l)) ∧ Go.Den.Below w.heap.size w w' := by
  refine (Arm.armor A0 c l w hc hle (by omega)).mono ?_
  rintro e w' ⟨rfl, hb, hd⟩
  exact ⟨rfl, hb.os, hb.tape, hb.output, hb.size, hb.block, hd⟩
theorem wholeH (x : ByteArray × Unit) (w : World) (hc : shortB x.1 = true) (ht : Tbl E.tb w) : Calls Tryd.prog 12 #[.string x.1] w fun e w' => e = .returned (.tuple #[.int .i64 (atoiN x.1), .bool (wholeB x.1)]) ∧ Go.Den.Below w.heap.size w w' := by
  have htab : Lib.TabIs Tryd.prog w "internal/strconv.uint64pow10" .u64 Lib.pow10Tab := by
    obtain ⟨cs, ty, fr, hh, hp⟩ := ht 3 _ rfl
    have hp : cs = (Lib.pow10Tab.map fun z => Value.int .u64 z).toArray := hp
    subst hp
    unfold Lib.TabIs World.var?
    rw [show Tryd.prog.globalNamed "internal/strconv.uint64pow10" = some 3 by kernel_rfl]
    simp [hh]
  obtain ⟨_, _, _, hh0, te0, pe0, rfl⟩ := ht 1 _ rfl
  obtain ⟨_, _, _, hh1, te1, pe1, rfl⟩ := ht 2 _ rfl
  have hv0 : w.cell? ⟨1, 0, none⟩ = some (.iface te0 pe0) := by simp [World.cell?, hh0]
  have hv1 : w.cell? ⟨2, 0, none⟩ = some (.iface te1 pe1) := by simp [World.cell?, hh1]
  refine (Go.Den.Calls.drawn (whole x.1 (of_decide_eq_true hc) _ _ w hv0 (.inr ⟨_, _, rfl⟩) hv1 (.inr ⟨_, _, rfl⟩) htab) (fun e w' h => by rw [h.1]; intro z; cases z)).mono ?_
  rintro e w' ⟨⟨rfl, hb⟩, hd⟩
  exact ⟨rfl, Go.Den.Below.ofk hb hd⟩
theorem plugs : E.plugs.Ok E.tb E.prog E.frs := ⟨idxX (by decide) (enters_of Tryd.func40 (by kernel_rfl) rfl) (by kernel_rfl) idx40, ⟨itoaX (by decide) (enters_of Tryd.func20 (by kernel_rfl) rfl) (by kernel_rfl) itoaH, ⟨armX (by decide) (enters_of Tryd.func22 (by kernel_rfl) rfl) (by kernel_rfl) armH, ⟨flatCX [.str] (.pair (.int .i64) (.pair .bool .unit)) (by decide) rfl rfl (enters_of Tryd.func12 (by kernel_rfl) rfl) (fun _ => rfl) (fun x w hc ht => by rw [show retTup E.prog 12 = true by kernel_rfl]; exact wholeH x w hc ht), trivial⟩⟩⟩⟩
end Go.Proofs.YtaejbcahfnlggaaDoor.PT
