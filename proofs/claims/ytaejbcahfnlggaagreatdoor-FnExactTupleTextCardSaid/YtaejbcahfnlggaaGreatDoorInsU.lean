-- Written for this claim by a program of this session (mkins.py): some functions of the library, walked.
import Derived.Test.YtaejbcahfnlggaaGreatDoorEU
import Derived.Test.YtaejbcahfnlggaaGreatDoorJoinU
import Derived.Test.YtaejbcahfnlggaaGreatDoorFmtU
import Derived.Shelf.Abstract
import Derived.Shelf.Lay
import Derived.Shelf.LaySoft
import Derived.Shelf.Strconv.Itoa3
import Derived.Ground.NamesProg
import Derived.WalkSmall
import Derived.Shelf.RegionOpenPlain
import Derived.Lib.Walk
import Derived.Lib.SliceRun
namespace Go.Proofs
open Go.Shelf Go.RowKit Go.Lib Go.Sort
set_option maxHeartbeats 4000000
set_option maxRecDepth 100000
shelf_lay LaysM.n171 Nm 171 at Tryz as Tryz.itoaL
end Go.Proofs
namespace Go.Proofs.YtaejbcahfnlggaaGreatDoor.PU
open Go Go.Proofs Go.RowKit Go.Lib Go.Den
set_option linter.unusedVariables false
set_option linter.unusedSimpArgs false
theorem itoaH (n : Int) (w : World) (h0 : -9223372036854775808 ≤ n) (h1 : n ≤ 9223372036854775807) (ht : Tbl E.tb w) : Calls Tryz.prog 42 #[.int .i64 n] w fun e w' => e = .returned (.string (itoaS n)) ∧ Go.Den.Below w.heap.size w w' := by
  have htab : Lib.TabIs Tryz.prog w "internal/strconv.uint64pow10" .u64 Lib.pow10Tab := by
    obtain ⟨ty, fr, hh⟩ := ht 1 _ rfl
    unfold Lib.TabIs World.var?
    rw [show Tryz.prog.globalNamed "internal/strconv.uint64pow10" = some 1 by kernel_rfl]
    simp [hh]
  refine (Any.strconv_Itoa Tryz.itoaL n h0 h1 w htab).mono ?_
  rintro e w' ⟨rfl, k, os, rfl⟩
  refine ⟨rfl, rfl, rfl, rfl, ?_, fun j hj => ?_, Nat.le_add_right _ _⟩
  · simp [Go.Sort.grow, World.drewN]
  · show ((w.drewN k).heap ++ os)[j]? = _
    rw [Array.getElem?_append_left (by simpa [World.drewN] using hj)]
    rfl
theorem fmtH (u : Nat) (w : World) (hu : u < 18446744073709551616) (ht : Tbl E.tb w) : Calls Tryz.prog 44 #[.int .u64 (u : Int), .int .i64 10] w fun e w' => e = .returned (.string (digS u)) ∧ Go.Den.Below w.heap.size w w' := by
  have htab : Lib.TabIs Tryz.prog w "internal/strconv.uint64pow10" .u64 Lib.pow10Tab := by
    obtain ⟨ty, fr, hh⟩ := ht 1 _ rfl
    unfold Lib.TabIs World.var?
    rw [show Tryz.prog.globalNamed "internal/strconv.uint64pow10" = some 1 by kernel_rfl]
    simp [hh]
  refine (Fmt.fmtuP u hu w htab).mono ?_
  rintro e w' ⟨rfl, k, os, rfl⟩
  refine ⟨by unfold digS; rw [Int.toNat_natCast], rfl, rfl, rfl, ?_, fun j hj => ?_, Nat.le_add_right _ _⟩
  · simp [Go.Sort.grow, World.drewN]
  · show ((w.drewN k).heap ++ os)[j]? = _
    rw [Array.getElem?_append_left (by simpa [World.drewN] using hj)]
    rfl
theorem plugs : E.plugs.Ok E.tb E.prog E.frs := ⟨itoaX (by decide) (enters_of Tryz.func42 (by kernel_rfl) rfl) (by kernel_rfl) itoaH, ⟨fmtX (by decide) (enters_of Tryz.func44 (by kernel_rfl) rfl) (by kernel_rfl) fmtH, ⟨strX (by decide) (enters_of Tryz.func43 (by kernel_rfl) rfl) (by kernel_rfl) quoH, ⟨joinX (by decide) (enters_of Tryz.func51 (by kernel_rfl) rfl) (by kernel_rfl) Jn.BC_strings_Join_none Jn.BC_strings_Join, trivial⟩⟩⟩⟩
end Go.Proofs.YtaejbcahfnlggaaGreatDoor.PU
