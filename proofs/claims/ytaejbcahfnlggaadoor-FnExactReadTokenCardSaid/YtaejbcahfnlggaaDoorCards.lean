/-
  DERIVED. GIVEN WITH THE SEED: THE CARDS: each row of YtaejbcahfnlggaaDoorRows.lean that lists a variable, with what it lists TIED to the program's text (the seventh form; the later family's looks); each row that meets fmt, with fmt's text TOLD by the authors' own Lean function (tested against real Go, not proved from fmt's source: count such statements apart). THE CARD IS WHAT COUNTS. Prove the row's statement (the work); the ties are given (YtaejbcahfnlggaaDoorTie.lean); close each card by the builder's one call (the guide's Derived/Test/ToyasCard.lean, 'card_holds'). Laid BY PROGRAM, IN A SANDBOX (cutbox-door.mjs). By AI agents, Wed Nov 11 2026. No macro, syntax, notation, axiom, sorry.
-/
import Derived.Test.YtaejbcahfnlggaaDoorRows
import GoSem.ClaimSeven
namespace Go.Proofs.YtaejbcahfnlggaaDoor
namespace Rows

/-- THE TIED CARD OF 'laws.FnExactReadToken'. -/
def fnExactReadTokenCard : Claim7 := { stood := { row := fnExactReadTokenRow, standIns := [], harness := (true, "c7ef222ecf3657fbdf935efe11450473d50ed278f0d3b7728271974c3cad4c89"), looks := true }, kinds := [], alts := [], laidByText := true, laidKinds := [.data, .data, .data, .sentinel, .sentinel], laidTests := true, laidLooks := .later }
def FnExactReadTokenCardSaid : Prop := Claim7.holds Tryd.pinned (.plain (OpenSpec.ofChange fnExactReadTokenSpec)) fnExactReadTokenCard

/-- THE SECOND FORM's CARD OF 'laws.FnExactReadToken'. -/
def fnExactReadTokenUptoCard : Claim7 := { stood := { row := fnExactReadTokenUptoRow, standIns := [], harness := (true, "c7ef222ecf3657fbdf935efe11450473d50ed278f0d3b7728271974c3cad4c89"), looks := true }, kinds := [], alts := [], laidByText := true, laidKinds := [.data, .data, .data, .sentinel, .sentinel], laidTests := true, laidLooks := .later }
def FnExactReadTokenUptoCardSaid : Prop := Claim7.holds Tryd.pinned (.plain (OpenSpec.upto fnExactReadTokenSpec)) fnExactReadTokenUptoCard
end Rows
end Go.Proofs.YtaejbcahfnlggaaDoor
