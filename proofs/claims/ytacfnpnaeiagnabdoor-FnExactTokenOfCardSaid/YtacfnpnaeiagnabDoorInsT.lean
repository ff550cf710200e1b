-- Written for this claim by a program of this session (mkins.py): some functions of the library, walked.
import Derived.Test.YtacfnpnaeiagnabDoorET
import Derived.Shelf.Abstract
import Derived.Shelf.Lay
import Derived.Shelf.LaySoft
import Derived.Shelf.Strconv.Itoa3
import Derived.Ground.NamesProg
import Derived.WalkSmall
import Derived.Shelf.RegionOpenPlain
import Derived.Lib.Walk
import Derived.Lib.SliceRun
namespace Go.Proofs
open Go.Shelf Go.RowKit Go.Lib Go.Sort
set_option maxHeartbeats 4000000
set_option maxRecDepth 100000
shelf_lay LaysM.n171 Nm 171 at Tryd as Tryd.itoaL
end Go.Proofs
namespace Go.Proofs.YtacfnpnaeiagnabDoor.PT
open Go Go.Proofs Go.RowKit Go.Lib Go.Den
set_option linter.unusedVariables false
set_option linter.unusedSimpArgs false
theorem itoaH (n : Int) (w : World) (h0 : -9223372036854775808 ≤ n) (h1 : n ≤ 9223372036854775807) (ht : Tbl E.tb w) : Calls Tryd.prog 9 #[.int .i64 n] w fun e w' => e = .returned (.string (itoaS n)) ∧ Go.Den.Below w.heap.size w w' := by
  have htab : Lib.TabIs Tryd.prog w "internal/strconv.uint64pow10" .u64 Lib.pow10Tab := by
    obtain ⟨ty, fr, hh⟩ := ht 0 _ rfl
    unfold Lib.TabIs World.var?
    rw [show Tryd.prog.globalNamed "internal/strconv.uint64pow10" = some 0 by kernel_rfl]
    simp [hh]
  refine (Any.strconv_Itoa Tryd.itoaL n h0 h1 w htab).mono ?_
  rintro e w' ⟨rfl, k, os, rfl⟩
  refine ⟨rfl, rfl, rfl, rfl, ?_, fun j hj => ?_, Nat.le_add_right _ _⟩
  · simp [Go.Sort.grow, World.drewN]
  · show ((w.drewN k).heap ++ os)[j]? = _
    rw [Array.getElem?_append_left (by simpa [World.drewN] using hj)]
    rfl
theorem armH (A0 : Option Addr) (c : Nat) (l : List Int) (w : World) (hc : ∀ i : Nat, i < l.length → ∃ ad, A0 = some ad ∧ w.cell? (ad.add i) = some (.int .u8 (l.getD i 0))) (hle : l.length ≤ c) (hn : l.length ≤ 20000) :
    Calls Tryd.prog 10 #[.slice A0 l.length c] w fun e w' => e = .returned (.string (armorS l)) ∧ Go.Den.Below w.heap.size w w' := by
  refine (Arm.armor A0 c l w hc hle (by omega)).mono ?_
  rintro e w' ⟨rfl, hb, hd⟩
  exact ⟨rfl, hb.os, hb.tape, hb.output, hb.size, hb.block, hd⟩
theorem plugs : E.plugs.Ok E.tb E.prog E.frs := ⟨itoaX (by decide) (enters_of Tryd.func9 (by kernel_rfl) rfl) (by kernel_rfl) itoaH, ⟨armX (by decide) (enters_of Tryd.func10 (by kernel_rfl) rfl) (by kernel_rfl) armH, trivial⟩⟩
end Go.Proofs.YtacfnpnaeiagnabDoor.PT
