/-
  DERIVED. GIVEN WITH THE SEED: THE CARDS: each row of YtaejbcahfnlggaaGreatDoorRows.lean that lists a variable, with what it lists TIED to the program's text (the seventh form; the later family's looks); each row that meets fmt, with fmt's text TOLD by the authors' own Lean function (tested against real Go, not proved from fmt's source: count such statements apart). THE CARD IS WHAT COUNTS. Prove the row's statement (the work); the ties are given (YtaejbcahfnlggaaGreatDoorTie.lean); close each card by the builder's one call (the guide's Derived/Test/ToyasCard.lean, 'card_holds'). Laid BY PROGRAM, IN A SANDBOX (cutbox-door.mjs). By AI agents, Wed Nov 11 2026. No macro, syntax, notation, axiom, sorry.
-/
import Derived.Test.YtaejbcahfnlggaaGreatDoorRows
import GoSem.ClaimSeven
namespace Go.Proofs.YtaejbcahfnlggaaGreatDoor
namespace Rows

/-- THE TIED CARD OF 'laws.FnExactReadTuple'. -/
def fnExactReadTupleCard : Claim7 := { stood := { row := fnExactReadTupleRow, standIns := [], harness := (true, "aec2e4492f7f81994a724b81b575582e12f01836696226367aaa9dd5dcf69467"), looks := true }, kinds := [], alts := [], laidByText := true, laidKinds := [.data, .data, .data, .data, .sentinel, .sentinel, .pinned], laidTests := true, laidLooks := .later }
def FnExactReadTupleCardSaid : Prop := Claim7.holds Tryz.pinned (.plain (OpenSpec.ofChange fnExactReadTupleSpec)) fnExactReadTupleCard

/-- THE TIED CARD OF 'laws.FnExactAtomText'. -/
def fnExactAtomTextCard : Claim7 := { stood := { row := fnExactAtomTextRow, standIns := [], harness := (true, "aec2e4492f7f81994a724b81b575582e12f01836696226367aaa9dd5dcf69467"), looks := true }, kinds := [], alts := [], laidByText := true, laidKinds := [.data, .data, .data], laidTests := true, laidLooks := .later }
def FnExactAtomTextCardSaid : Prop := Claim7.holds Tryz.pinned (.plain (OpenSpec.ofChange fnExactAtomTextSpec)) fnExactAtomTextCard

/-- THE TIED CARD OF 'laws.FnExactValueText'. -/
def fnExactValueTextCard : Claim7 := { stood := { row := fnExactValueTextRow, standIns := [], harness := (true, "aec2e4492f7f81994a724b81b575582e12f01836696226367aaa9dd5dcf69467"), looks := true }, kinds := [], alts := [], laidByText := true, laidKinds := [.data, .data, .data], laidTests := true, laidLooks := .later }
def FnExactValueTextCardSaid : Prop := Claim7.holds Tryz.pinned (.plain (OpenSpec.ofChange fnExactValueTextSpec)) fnExactValueTextCard

/-- THE TIED CARD OF 'laws.FnExactTupleText'. -/
def fnExactTupleTextCard : Claim7 := { stood := { row := fnExactTupleTextRow, standIns := [], harness := (true, "aec2e4492f7f81994a724b81b575582e12f01836696226367aaa9dd5dcf69467"), looks := true }, kinds := [], alts := [], laidByText := true, laidKinds := [.data, .data, .data], laidTests := true, laidLooks := .later }
def FnExactTupleTextCardSaid : Prop := Claim7.holds Tryz.pinned (.plain (OpenSpec.ofChange fnExactTupleTextSpec)) fnExactTupleTextCard

/-- THE TIED CARD OF 'laws.FnExactReadAtom'. -/
def fnExactReadAtomCard : Claim7 := { stood := { row := fnExactReadAtomRow, standIns := [], harness := (true, "aec2e4492f7f81994a724b81b575582e12f01836696226367aaa9dd5dcf69467"), looks := true }, kinds := [], alts := [], laidByText := true, laidKinds := [.data, .data, .data, .data, .sentinel, .sentinel, .pinned], laidTests := true, laidLooks := .later }
def FnExactReadAtomCardSaid : Prop := Claim7.holds Tryz.pinned (.plain (OpenSpec.ofChange fnExactReadAtomSpec)) fnExactReadAtomCard

/-- THE TIED CARD OF 'laws.FnExactReadValue'. -/
def fnExactReadValueCard : Claim7 := { stood := { row := fnExactReadValueRow, standIns := [], harness := (true, "aec2e4492f7f81994a724b81b575582e12f01836696226367aaa9dd5dcf69467"), looks := true }, kinds := [], alts := [], laidByText := true, laidKinds := [.data, .data, .data, .data, .sentinel, .sentinel, .pinned], laidTests := true, laidLooks := .later }
def FnExactReadValueCardSaid : Prop := Claim7.holds Tryz.pinned (.plain (OpenSpec.ofChange fnExactReadValueSpec)) fnExactReadValueCard

/-- THE SECOND FORM's CARD OF 'laws.FnExactReadTuple'. -/
def fnExactReadTupleUptoCard : Claim7 := { stood := { row := fnExactReadTupleUptoRow, standIns := [], harness := (true, "aec2e4492f7f81994a724b81b575582e12f01836696226367aaa9dd5dcf69467"), looks := true }, kinds := [], alts := [], laidByText := true, laidKinds := [.data, .data, .data, .data, .sentinel, .sentinel, .pinned], laidTests := true, laidLooks := .later }
def FnExactReadTupleUptoCardSaid : Prop := Claim7.holds Tryz.pinned (.plain (OpenSpec.upto fnExactReadTupleSpec)) fnExactReadTupleUptoCard

/-- THE SECOND FORM's CARD OF 'laws.FnExactAtomText'. -/
def fnExactAtomTextUptoCard : Claim7 := { stood := { row := fnExactAtomTextUptoRow, standIns := [], harness := (true, "aec2e4492f7f81994a724b81b575582e12f01836696226367aaa9dd5dcf69467"), looks := true }, kinds := [], alts := [], laidByText := true, laidKinds := [.data, .data, .data], laidTests := true, laidLooks := .later }
def FnExactAtomTextUptoCardSaid : Prop := Claim7.holds Tryz.pinned (.plain (OpenSpec.upto fnExactAtomTextSpec)) fnExactAtomTextUptoCard

/-- THE SECOND FORM's CARD OF 'laws.FnExactValueText'. -/
def fnExactValueTextUptoCard : Claim7 := { stood := { row := fnExactValueTextUptoRow, standIns := [], harness := (true, "aec2e4492f7f81994a724b81b575582e12f01836696226367aaa9dd5dcf69467"), looks := true }, kinds := [], alts := [], laidByText := true, laidKinds := [.data, .data, .data], laidTests := true, laidLooks := .later }
def FnExactValueTextUptoCardSaid : Prop := Claim7.holds Tryz.pinned (.plain (OpenSpec.upto fnExactValueTextSpec)) fnExactValueTextUptoCard

/-- THE SECOND FORM's CARD OF 'laws.FnExactTupleText'. -/
def fnExactTupleTextUptoCard : Claim7 := { stood := { row := fnExactTupleTextUptoRow, standIns := [], harness := (true, "aec2e4492f7f81994a724b81b575582e12f01836696226367aaa9dd5dcf69467"), looks := true }, kinds := [], alts := [], laidByText := true, laidKinds := [.data, .data, .data], laidTests := true, laidLooks := .later }
def FnExactTupleTextUptoCardSaid : Prop := Claim7.holds Tryz.pinned (.plain (OpenSpec.upto fnExactTupleTextSpec)) fnExactTupleTextUptoCard

/-- THE SECOND FORM's CARD OF 'laws.FnExactReadAtom'. -/
def fnExactReadAtomUptoCard : Claim7 := { stood := { row := fnExactReadAtomUptoRow, standIns := [], harness := (true, "aec2e4492f7f81994a724b81b575582e12f01836696226367aaa9dd5dcf69467"), looks := true }, kinds := [], alts := [], laidByText := true, laidKinds := [.data, .data, .data, .data, .sentinel, .sentinel, .pinned], laidTests := true, laidLooks := .later }
def FnExactReadAtomUptoCardSaid : Prop := Claim7.holds Tryz.pinned (.plain (OpenSpec.upto fnExactReadAtomSpec)) fnExactReadAtomUptoCard

/-- THE SECOND FORM's CARD OF 'laws.FnExactReadValue'. -/
def fnExactReadValueUptoCard : Claim7 := { stood := { row := fnExactReadValueUptoRow, standIns := [], harness := (true, "aec2e4492f7f81994a724b81b575582e12f01836696226367aaa9dd5dcf69467"), looks := true }, kinds := [], alts := [], laidByText := true, laidKinds := [.data, .data, .data, .data, .sentinel, .sentinel, .pinned], laidTests := true, laidLooks := .later }
def FnExactReadValueUptoCardSaid : Prop := Claim7.holds Tryz.pinned (.plain (OpenSpec.upto fnExactReadValueSpec)) fnExactReadValueUptoCard
end Rows
end Go.Proofs.YtaejbcahfnlggaaGreatDoor
