/-
  No cell of these rows narrows 'for every input' (looked for: loops, veiled, ifaces, maps, wideKeys, modest, calm, conditions, laid).
  DERIVED. THE GIVEN ROWS OF THIS SEAT. 5 by the template 'for every input the law returns true; each argument reads behind the call as it read before'; 0 by the template 'total and deterministic' (their statements: YtcgiegkcmofhhaaTotals.lean).
  GIVEN WITH THE SEED: the statements are not yours to turn. If you find one false, say at which input.
  Laid BY PROGRAM, IN A SANDBOX (cutbox-rows.mjs): the forced cells as the released guide's own fill.sh prints them over the translation ae59dfe9710e08eb… (all of the seat's roots in one cut). By AI agents, Wed Nov 11 2026. No macro, syntax, notation, axiom, sorry.
-/
import Derived.Test.YtcgiegkcmofhhaaChecked
import GoSem.Claim
import GoSem.ClaimJoined
import GoSem.ClaimMapViews
import Derived.JoinedTies
import Derived.KernelRfl
namespace Go.Proofs.Ytcgiegkcmofhhaa
/- THE CELL 'sum', in the pinned program and in every row, IS THE sha256 OF THE DUMP (.gsa) THAT YtcgiegkcmofhhaaProg.lean LOADS. Nothing in Lean hashes anything: it is a label: what it is worth is what the hold of that sum in a sandbox is worth. -/
noncomputable def Try.pinned : Pinned := { name := "ytcgiegkcmofhhaa", sum := "ae59dfe9710e08eb1ba32e659d87f9c535011e86c5d2f5ff20b13b61a0d15a29", checked := Try.checked }
namespace Rows
def none {H : Type} : Left H := { results := [], args := [] }

/-- 'laws.FnExactNameText': WHATEVER THE INPUT: true; the input reads as it did. -/
def fnExactNameTextSpec : ChangeSpec := { name := "fnExactNameText", fn := fun _ => fun
  | [d] => { results := [.lit (.bool true)], args := [d] }
  | _ => none }
def fnExactNameTextRow : OpenClaim := { program := "ytcgiegkcmofhhaa", sum := "ae59dfe9710e08eb1ba32e659d87f9c535011e86c5d2f5ff20b13b61a0d15a29", func := "loop.example/g00036/laws.FnExactNameText", spec := "fnExactNameText", inPlace := ["internal/bytealg.IndexByteString", "internal/abi.NoEscape", "internal/bytealg.MakeNoZero"], unfollowed := true, recurses := true, apart := false }
def FnExactNameTextSaid : Prop := fnExactNameTextRow.holds Try.pinned (OpenSpec.ofChange fnExactNameTextSpec)

/-- ITS FALSE NEIGHBOUR: 'it returns false'. Refute it at one input. -/
def fnExactNameTextWrong : ChangeSpec := { name := "fnExactNameText", fn := fun _ => fun
  | [d] => { results := [.lit (.bool false)], args := [d] }
  | _ => none }
def FnExactNameTextWrongFalsely : Prop := fnExactNameTextRow.holds Try.pinned (OpenSpec.ofChange fnExactNameTextWrong)

/-- 'laws.FnExactWayOf': WHATEVER THE INPUT: true; the input reads as it did. -/
def fnExactWayOfSpec : ChangeSpec := { name := "fnExactWayOf", fn := fun _ => fun
  | [d1, d2, d3] => { results := [.lit (.bool true)], args := [d1, d2, d3] }
  | _ => none }
def fnExactWayOfRow : OpenClaim := { program := "ytcgiegkcmofhhaa", sum := "ae59dfe9710e08eb1ba32e659d87f9c535011e86c5d2f5ff20b13b61a0d15a29", func := "loop.example/g00036/laws.FnExactWayOf", spec := "fnExactWayOf", recurses := true, apart := false }
def FnExactWayOfSaid : Prop := fnExactWayOfRow.holds Try.pinned (OpenSpec.ofChange fnExactWayOfSpec)

/-- ITS FALSE NEIGHBOUR: 'it returns false'. Refute it at one input. -/
def fnExactWayOfWrong : ChangeSpec := { name := "fnExactWayOf", fn := fun _ => fun
  | [d1, d2, d3] => { results := [.lit (.bool false)], args := [d1, d2, d3] }
  | _ => none }
def FnExactWayOfWrongFalsely : Prop := fnExactWayOfRow.holds Try.pinned (OpenSpec.ofChange fnExactWayOfWrong)

/-- 'laws.FnExactGoodDirSchema': WHATEVER THE INPUT: true; the input reads as it did. -/
def fnExactGoodDirSchemaSpec : ChangeSpec := { name := "fnExactGoodDirSchema", fn := fun _ => fun
  | [d] => { results := [.lit (.bool true)], args := [d] }
  | _ => none }
def fnExactGoodDirSchemaRow : OpenClaim := { program := "ytcgiegkcmofhhaa", sum := "ae59dfe9710e08eb1ba32e659d87f9c535011e86c5d2f5ff20b13b61a0d15a29", func := "loop.example/g00036/laws.FnExactGoodDirSchema", spec := "fnExactGoodDirSchema", unfollowed := true, recurses := true, apart := false }
def FnExactGoodDirSchemaSaid : Prop := fnExactGoodDirSchemaRow.holds Try.pinned (OpenSpec.ofChange fnExactGoodDirSchemaSpec)

/-- ITS FALSE NEIGHBOUR: 'it returns false'. Refute it at one input. -/
def fnExactGoodDirSchemaWrong : ChangeSpec := { name := "fnExactGoodDirSchema", fn := fun _ => fun
  | [d] => { results := [.lit (.bool false)], args := [d] }
  | _ => none }
def FnExactGoodDirSchemaWrongFalsely : Prop := fnExactGoodDirSchemaRow.holds Try.pinned (OpenSpec.ofChange fnExactGoodDirSchemaWrong)

/-- 'laws.FnExactGoodValue': WHATEVER THE INPUT: true; the input reads as it did. -/
def fnExactGoodValueSpec : ChangeSpec := { name := "fnExactGoodValue", fn := fun _ => fun
  | [d] => { results := [.lit (.bool true)], args := [d] }
  | _ => none }
def fnExactGoodValueRow : OpenClaim := { program := "ytcgiegkcmofhhaa", sum := "ae59dfe9710e08eb1ba32e659d87f9c535011e86c5d2f5ff20b13b61a0d15a29", func := "loop.example/g00036/laws.FnExactGoodValue", spec := "fnExactGoodValue", unfollowed := true, recurses := true, apart := false }
def FnExactGoodValueSaid : Prop := fnExactGoodValueRow.holds Try.pinned (OpenSpec.ofChange fnExactGoodValueSpec)

/-- ITS FALSE NEIGHBOUR: 'it returns false'. Refute it at one input. -/
def fnExactGoodValueWrong : ChangeSpec := { name := "fnExactGoodValue", fn := fun _ => fun
  | [d] => { results := [.lit (.bool false)], args := [d] }
  | _ => none }
def FnExactGoodValueWrongFalsely : Prop := fnExactGoodValueRow.holds Try.pinned (OpenSpec.ofChange fnExactGoodValueWrong)

/-- 'laws.FnExactGoodLog': WHATEVER THE INPUT: true; the input reads as it did. -/
def fnExactGoodLogSpec : ChangeSpec := { name := "fnExactGoodLog", fn := fun _ => fun
  | [d] => { results := [.lit (.bool true)], args := [d] }
  | _ => none }
def fnExactGoodLogRow : OpenClaim := { program := "ytcgiegkcmofhhaa", sum := "ae59dfe9710e08eb1ba32e659d87f9c535011e86c5d2f5ff20b13b61a0d15a29", func := "loop.example/g00036/laws.FnExactGoodLog", spec := "fnExactGoodLog", inPlace := ["internal/bytealg.IndexByteString", "internal/bytealg.IndexString"], named := ["internal/bytealg.MaxLen"], apart := false }
def FnExactGoodLogSaid : Prop := fnExactGoodLogRow.holds Try.pinned (OpenSpec.ofChange fnExactGoodLogSpec)

/-- ITS FALSE NEIGHBOUR: 'it returns false'. Refute it at one input. -/
def fnExactGoodLogWrong : ChangeSpec := { name := "fnExactGoodLog", fn := fun _ => fun
  | [d] => { results := [.lit (.bool false)], args := [d] }
  | _ => none }
def FnExactGoodLogWrongFalsely : Prop := fnExactGoodLogRow.holds Try.pinned (OpenSpec.ofChange fnExactGoodLogWrong)

/- THE SECOND FORM. 'bulk': how many values and letters a reading holds, each counted each time it is reached (what is shared counts as often as it is met; a slice's spare places count too). A statement '..UptoSaid' is the law's where the arguments, and the package variables that the reading takes, are together of bulk at most 1048576: NARROWER than '..Said'. Prove '..Said' where nothing that the law and all that it calls make is longer than what came in: it says more and counts as full. Else prove '..UptoSaid'. A law counts once. -/
mutual
def uptoBulk {H : Type} : DataW H → Nat
  | .lit (.string bytes) => bytes.length + 1
  | .lit _ => 1
  | .nil => 1
  | .ptr d => uptoBulk d + 1
  | .slice elems spare => uptoBulkAll elems + uptoBulkAll spare + 1
  | .agg parts => uptoBulkAll parts + 1
  | .iface _ d => uptoBulk d + 1
  | .map entries => uptoBulkEntries entries + 1
  | .held _ => 1
def uptoBulkAll {H : Type} : List (DataW H) → Nat
  | [] => 0
  | d :: r => uptoBulk d + uptoBulkAll r
def uptoBulkEntries {H : Type} : List (Lit × DataW H) → Nat
  | [] => 0
  | x :: r => uptoBulkEntry x + uptoBulkEntries r
def uptoBulkEntry {H : Type} : Lit × DataW H → Nat
  | (.string bytes, d) => bytes.length + uptoBulk d + 1
  | (_, d) => uptoBulk d + 1
 end
def uptoSmall : (H : Type) → List (DataW H) → Bool := fun _ ds => decide (uptoBulkAll ds ≤ 1048576)
def OpenSpec.upto (s : _root_.Go.ChangeSpec) : _root_.Go.OpenSpec := { _root_.Go.OpenSpec.ofChange s with cond := some uptoSmall }

/-- 'laws.FnExactNameText', WHERE WHAT IT READS IS OF BULK AT MOST 1048576: true; the input reads as it did. -/
def fnExactNameTextUptoRow : OpenClaim := { program := "ytcgiegkcmofhhaa", sum := "ae59dfe9710e08eb1ba32e659d87f9c535011e86c5d2f5ff20b13b61a0d15a29", func := "loop.example/g00036/laws.FnExactNameText", spec := "fnExactNameText", inPlace := ["internal/bytealg.IndexByteString", "internal/abi.NoEscape", "internal/bytealg.MakeNoZero"], unfollowed := true, recurses := true, apart := false, narrowed := true }
def FnExactNameTextUptoSaid : Prop := fnExactNameTextUptoRow.holds Try.pinned (OpenSpec.upto fnExactNameTextSpec)

/-- 'laws.FnExactWayOf', WHERE WHAT IT READS IS OF BULK AT MOST 1048576: true; the input reads as it did. -/
def fnExactWayOfUptoRow : OpenClaim := { program := "ytcgiegkcmofhhaa", sum := "ae59dfe9710e08eb1ba32e659d87f9c535011e86c5d2f5ff20b13b61a0d15a29", func := "loop.example/g00036/laws.FnExactWayOf", spec := "fnExactWayOf", recurses := true, apart := false, narrowed := true }
def FnExactWayOfUptoSaid : Prop := fnExactWayOfUptoRow.holds Try.pinned (OpenSpec.upto fnExactWayOfSpec)

/-- 'laws.FnExactGoodDirSchema', WHERE WHAT IT READS IS OF BULK AT MOST 1048576: true; the input reads as it did. -/
def fnExactGoodDirSchemaUptoRow : OpenClaim := { program := "ytcgiegkcmofhhaa", sum := "ae59dfe9710e08eb1ba32e659d87f9c535011e86c5d2f5ff20b13b61a0d15a29", func := "loop.example/g00036/laws.FnExactGoodDirSchema", spec := "fnExactGoodDirSchema", unfollowed := true, recurses := true, apart := false, narrowed := true }
def FnExactGoodDirSchemaUptoSaid : Prop := fnExactGoodDirSchemaUptoRow.holds Try.pinned (OpenSpec.upto fnExactGoodDirSchemaSpec)

/-- 'laws.FnExactGoodValue', WHERE WHAT IT READS IS OF BULK AT MOST 1048576: true; the input reads as it did. -/
def fnExactGoodValueUptoRow : OpenClaim := { program := "ytcgiegkcmofhhaa", sum := "ae59dfe9710e08eb1ba32e659d87f9c535011e86c5d2f5ff20b13b61a0d15a29", func := "loop.example/g00036/laws.FnExactGoodValue", spec := "fnExactGoodValue", unfollowed := true, recurses := true, apart := false, narrowed := true }
def FnExactGoodValueUptoSaid : Prop := fnExactGoodValueUptoRow.holds Try.pinned (OpenSpec.upto fnExactGoodValueSpec)

/-- 'laws.FnExactGoodLog', WHERE WHAT IT READS IS OF BULK AT MOST 1048576: true; the input reads as it did. -/
def fnExactGoodLogUptoRow : OpenClaim := { program := "ytcgiegkcmofhhaa", sum := "ae59dfe9710e08eb1ba32e659d87f9c535011e86c5d2f5ff20b13b61a0d15a29", func := "loop.example/g00036/laws.FnExactGoodLog", spec := "fnExactGoodLog", inPlace := ["internal/bytealg.IndexByteString", "internal/bytealg.IndexString"], named := ["internal/bytealg.MaxLen"], apart := false, narrowed := true }
def FnExactGoodLogUptoSaid : Prop := fnExactGoodLogUptoRow.holds Try.pinned (OpenSpec.upto fnExactGoodLogSpec)

end Rows
end Go.Proofs.Ytcgiegkcmofhhaa
