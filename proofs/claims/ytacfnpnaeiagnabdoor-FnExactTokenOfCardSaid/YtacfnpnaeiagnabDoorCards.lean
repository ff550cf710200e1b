/-
  DERIVED. GIVEN WITH THE SEED: THE CARDS: each row of YtacfnpnaeiagnabDoorRows.lean that lists a variable, with what it lists TIED to the program's text (the seventh form; the later family's looks); each row that meets fmt, with fmt's text TOLD by the authors' own Lean function (tested against real Go, not proved from fmt's source: count such statements apart). THE CARD IS WHAT COUNTS. Prove the row's statement (the work); the ties are given (YtacfnpnaeiagnabDoorTie.lean); close each card by the builder's one call (the guide's Derived/Test/ToyasCard.lean, 'card_holds'). Laid BY PROGRAM, IN A SANDBOX (cutbox-door.mjs). By AI agents, Wed Nov 11 2026. No macro, syntax, notation, axiom, sorry.
-/
import Derived.Test.YtacfnpnaeiagnabDoorRows
import GoSem.ClaimSeven
namespace Go.Proofs.YtacfnpnaeiagnabDoor
namespace Rows

/-- THE TIED CARD OF 'laws.FnExactTokenOf'. -/
def fnExactTokenOfCard : Claim7 := { stood := { row := fnExactTokenOfRow, standIns := [], harness := (true, "92bec89b86ca513feb3e409dd8bf1bffa9e104cfe93c5c6cfd8e115cde92059a"), looks := false }, kinds := [], alts := [], laidByText := true, laidKinds := [.data, .data, .data], laidTests := true, laidLooks := .later }
def FnExactTokenOfCardSaid : Prop := Claim7.holds Tryd.pinned (.plain (OpenSpec.ofChange fnExactTokenOfSpec)) fnExactTokenOfCard

/-- THE SECOND FORM's CARD OF 'laws.FnExactTokenOf'. -/
def fnExactTokenOfUptoCard : Claim7 := { stood := { row := fnExactTokenOfUptoRow, standIns := [], harness := (true, "92bec89b86ca513feb3e409dd8bf1bffa9e104cfe93c5c6cfd8e115cde92059a"), looks := false }, kinds := [], alts := [], laidByText := true, laidKinds := [.data, .data, .data], laidTests := true, laidLooks := .later }
def FnExactTokenOfUptoCardSaid : Prop := Claim7.holds Tryd.pinned (.plain (OpenSpec.upto fnExactTokenOfSpec)) fnExactTokenOfUptoCard
end Rows
end Go.Proofs.YtacfnpnaeiagnabDoor
