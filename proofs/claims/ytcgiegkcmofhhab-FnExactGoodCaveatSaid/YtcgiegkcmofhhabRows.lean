/-
  No cell of these rows narrows 'for every input' (looked for: loops, veiled, ifaces, maps, wideKeys, modest, calm, conditions, laid).
  DERIVED. THE GIVEN ROWS OF THIS SEAT. 6 by the template 'for every input the law returns true; each argument reads behind the call as it read before'; 0 by the template 'total and deterministic' (their statements: YtcgiegkcmofhhabTotals.lean).
  GIVEN WITH THE SEED: the statements are not yours to turn. If you find one false, say at which input.
  Laid BY PROGRAM, IN A SANDBOX (cutbox-rows.mjs): the forced cells as the released guide's own fill.sh prints them over the translation 7e90cfd527b9d8c7… (all of the seat's roots in one cut). By AI agents, Wed Nov 11 2026. No macro, syntax, notation, axiom, sorry.
-/
import Derived.Test.YtcgiegkcmofhhabChecked
import GoSem.Claim
import GoSem.ClaimJoined
import GoSem.ClaimMapViews
import Derived.JoinedTies
import Derived.KernelRfl
namespace Go.Proofs.Ytcgiegkcmofhhab
/- THE CELL 'sum', in the pinned program and in every row, IS THE sha256 OF THE DUMP (.gsa) THAT YtcgiegkcmofhhabProg.lean LOADS. Nothing in Lean hashes anything: it is a label: what it is worth is what the hold of that sum in a sandbox is worth. -/
noncomputable def Try.pinned : Pinned := { name := "ytcgiegkcmofhhab", sum := "7e90cfd527b9d8c706e6c84ecefad9aed60b66c8ca5f22bb733588822a695a17", checked := Try.checked }
namespace Rows
def none {H : Type} : Left H := { results := [], args := [] }

/-- 'laws.FnExactNextStamp': WHATEVER THE INPUT: true; the input reads as it did. -/
def fnExactNextStampSpec : ChangeSpec := { name := "fnExactNextStamp", fn := fun _ => fun
  | [d1, d2] => { results := [.lit (.bool true)], args := [d1, d2] }
  | _ => none }
def fnExactNextStampRow : OpenClaim := { program := "ytcgiegkcmofhhab", sum := "7e90cfd527b9d8c706e6c84ecefad9aed60b66c8ca5f22bb733588822a695a17", func := "loop.example/g00036/laws.FnExactNextStamp", spec := "fnExactNextStamp", inPlace := ["internal/bytealg.IndexByteString", "internal/bytealg.IndexString"], named := ["internal/bytealg.MaxLen"], apart := false }
def FnExactNextStampSaid : Prop := fnExactNextStampRow.holds Try.pinned (OpenSpec.ofChange fnExactNextStampSpec)

/-- ITS FALSE NEIGHBOUR: 'it returns false'. Refute it at one input. -/
def fnExactNextStampWrong : ChangeSpec := { name := "fnExactNextStamp", fn := fun _ => fun
  | [d1, d2] => { results := [.lit (.bool false)], args := [d1, d2] }
  | _ => none }
def FnExactNextStampWrongFalsely : Prop := fnExactNextStampRow.holds Try.pinned (OpenSpec.ofChange fnExactNextStampWrong)

/-- 'laws.FnExactGoodCaveat': WHATEVER THE INPUT: true; the input reads as it did. -/
def fnExactGoodCaveatSpec : ChangeSpec := { name := "fnExactGoodCaveat", fn := fun _ => fun
  | [d] => { results := [.lit (.bool true)], args := [d] }
  | _ => none }
def fnExactGoodCaveatRow : OpenClaim := { program := "ytcgiegkcmofhhab", sum := "7e90cfd527b9d8c706e6c84ecefad9aed60b66c8ca5f22bb733588822a695a17", func := "loop.example/g00036/laws.FnExactGoodCaveat", spec := "fnExactGoodCaveat", unfollowed := true, recurses := true, apart := false }
def FnExactGoodCaveatSaid : Prop := fnExactGoodCaveatRow.holds Try.pinned (OpenSpec.ofChange fnExactGoodCaveatSpec)

/-- ITS FALSE NEIGHBOUR: 'it returns false'. Refute it at one input. -/
def fnExactGoodCaveatWrong : ChangeSpec := { name := "fnExactGoodCaveat", fn := fun _ => fun
  | [d] => { results := [.lit (.bool false)], args := [d] }
  | _ => none }
def FnExactGoodCaveatWrongFalsely : Prop := fnExactGoodCaveatRow.holds Try.pinned (OpenSpec.ofChange fnExactGoodCaveatWrong)

/-- 'laws.FnExactReadName': WHATEVER THE INPUT: true; the input reads as it did. -/
def fnExactReadNameSpec : ChangeSpec := { name := "fnExactReadName", fn := fun _ => fun
  | [d] => { results := [.lit (.bool true)], args := [d] }
  | _ => none }
def fnExactReadNameRow : OpenClaim := { program := "ytcgiegkcmofhhab", sum := "7e90cfd527b9d8c706e6c84ecefad9aed60b66c8ca5f22bb733588822a695a17", func := "loop.example/g00036/laws.FnExactReadName", spec := "fnExactReadName", inPlace := ["internal/bytealg.IndexByteString", "internal/bytealg.IndexString", "internal/abi.NoEscape", "internal/bytealg.MakeNoZero"], unfollowed := true, recurses := true, named := ["internal/bytealg.MaxLen"], apart := false }
def FnExactReadNameSaid : Prop := fnExactReadNameRow.holds Try.pinned (OpenSpec.ofChange fnExactReadNameSpec)

/-- ITS FALSE NEIGHBOUR: 'it returns false'. Refute it at one input. -/
def fnExactReadNameWrong : ChangeSpec := { name := "fnExactReadName", fn := fun _ => fun
  | [d] => { results := [.lit (.bool false)], args := [d] }
  | _ => none }
def FnExactReadNameWrongFalsely : Prop := fnExactReadNameRow.holds Try.pinned (OpenSpec.ofChange fnExactReadNameWrong)

/-- 'laws.FnExactVectorOf': WHATEVER THE INPUT: true; the input reads as it did. -/
def fnExactVectorOfSpec : ChangeSpec := { name := "fnExactVectorOf", fn := fun _ => fun
  | [d] => { results := [.lit (.bool true)], args := [d] }
  | _ => none }
def fnExactVectorOfRow : OpenClaim := { program := "ytcgiegkcmofhhab", sum := "7e90cfd527b9d8c706e6c84ecefad9aed60b66c8ca5f22bb733588822a695a17", func := "loop.example/g00036/laws.FnExactVectorOf", spec := "fnExactVectorOf", inPlace := ["internal/bytealg.IndexByteString", "internal/bytealg.IndexString"], named := ["internal/bytealg.MaxLen"], apart := false }
def FnExactVectorOfSaid : Prop := fnExactVectorOfRow.holds Try.pinned (OpenSpec.ofChange fnExactVectorOfSpec)

/-- ITS FALSE NEIGHBOUR: 'it returns false'. Refute it at one input. -/
def fnExactVectorOfWrong : ChangeSpec := { name := "fnExactVectorOf", fn := fun _ => fun
  | [d] => { results := [.lit (.bool false)], args := [d] }
  | _ => none }
def FnExactVectorOfWrongFalsely : Prop := fnExactVectorOfRow.holds Try.pinned (OpenSpec.ofChange fnExactVectorOfWrong)

/-- 'laws.FnExactMissing': WHATEVER THE INPUT: true; the input reads as it did. -/
def fnExactMissingSpec : ChangeSpec := { name := "fnExactMissing", fn := fun _ => fun
  | [d1, d2] => { results := [.lit (.bool true)], args := [d1, d2] }
  | _ => none }
def fnExactMissingRow : OpenClaim := { program := "ytcgiegkcmofhhab", sum := "7e90cfd527b9d8c706e6c84ecefad9aed60b66c8ca5f22bb733588822a695a17", func := "loop.example/g00036/laws.FnExactMissing", spec := "fnExactMissing", inPlace := ["internal/bytealg.IndexByteString", "internal/bytealg.IndexString"], unfollowed := true, recurses := true, named := ["internal/bytealg.MaxLen"], apart := false }
def FnExactMissingSaid : Prop := fnExactMissingRow.holds Try.pinned (OpenSpec.ofChange fnExactMissingSpec)

/-- ITS FALSE NEIGHBOUR: 'it returns false'. Refute it at one input. -/
def fnExactMissingWrong : ChangeSpec := { name := "fnExactMissing", fn := fun _ => fun
  | [d1, d2] => { results := [.lit (.bool false)], args := [d1, d2] }
  | _ => none }
def FnExactMissingWrongFalsely : Prop := fnExactMissingRow.holds Try.pinned (OpenSpec.ofChange fnExactMissingWrong)

/-- 'laws.FnExactTermHolds': WHATEVER THE INPUT: true; the input reads as it did. -/
def fnExactTermHoldsSpec : ChangeSpec := { name := "fnExactTermHolds", fn := fun _ => fun
  | [d1, d2, d3] => { results := [.lit (.bool true)], args := [d1, d2, d3] }
  | _ => none }
def fnExactTermHoldsRow : OpenClaim := { program := "ytcgiegkcmofhhab", sum := "7e90cfd527b9d8c706e6c84ecefad9aed60b66c8ca5f22bb733588822a695a17", func := "loop.example/g00036/laws.FnExactTermHolds", spec := "fnExactTermHolds", unfollowed := true, recurses := true, apart := false }
def FnExactTermHoldsSaid : Prop := fnExactTermHoldsRow.holds Try.pinned (OpenSpec.ofChange fnExactTermHoldsSpec)

/-- ITS FALSE NEIGHBOUR: 'it returns false'. Refute it at one input. -/
def fnExactTermHoldsWrong : ChangeSpec := { name := "fnExactTermHolds", fn := fun _ => fun
  | [d1, d2, d3] => { results := [.lit (.bool false)], args := [d1, d2, d3] }
  | _ => none }
def FnExactTermHoldsWrongFalsely : Prop := fnExactTermHoldsRow.holds Try.pinned (OpenSpec.ofChange fnExactTermHoldsWrong)

/- THE SECOND FORM. 'bulk': how many values and letters a reading holds, each counted each time it is reached (what is shared counts as often as it is met; a slice's spare places count too). A statement '..UptoSaid' is the law's where the arguments, and the package variables that the reading takes, are together of bulk at most 1048576: NARROWER than '..Said'. Prove '..Said' where nothing that the law and all that it calls make is longer than what came in: it says more and counts as full. Else prove '..UptoSaid'. A law counts once. -/
mutual
def uptoBulk {H : Type} : DataW H → Nat
  | .lit (.string bytes) => bytes.length + 1
  | .lit _ => 1
  | .nil => 1
  | .ptr d => uptoBulk d + 1
  | .slice elems spare => uptoBulkAll elems + uptoBulkAll spare + 1
  | .agg parts => uptoBulkAll parts + 1
  | .iface _ d => uptoBulk d + 1
  | .map entries => uptoBulkEntries entries + 1
  | .held _ => 1
def uptoBulkAll {H : Type} : List (DataW H) → Nat
  | [] => 0
  | d :: r => uptoBulk d + uptoBulkAll r
def uptoBulkEntries {H : Type} : List (Lit × DataW H) → Nat
  | [] => 0
  | x :: r => uptoBulkEntry x + uptoBulkEntries r
def uptoBulkEntry {H : Type} : Lit × DataW H → Nat
  | (.string bytes, d) => bytes.length + uptoBulk d + 1
  | (_, d) => uptoBulk d + 1
 end
def uptoSmall : (H : Type) → List (DataW H) → Bool := fun _ ds => decide (uptoBulkAll ds ≤ 1048576)
def OpenSpec.upto (s : _root_.Go.ChangeSpec) : _root_.Go.OpenSpec := { _root_.Go.OpenSpec.ofChange s with cond := some uptoSmall }

/-- 'laws.FnExactNextStamp', WHERE WHAT IT READS IS OF BULK AT MOST 1048576: true; the input reads as it did. -/
def fnExactNextStampUptoRow : OpenClaim := { program := "ytcgiegkcmofhhab", sum := "7e90cfd527b9d8c706e6c84ecefad9aed60b66c8ca5f22bb733588822a695a17", func := "loop.example/g00036/laws.FnExactNextStamp", spec := "fnExactNextStamp", inPlace := ["internal/bytealg.IndexByteString", "internal/bytealg.IndexString"], named := ["internal/bytealg.MaxLen"], apart := false, narrowed := true }
def FnExactNextStampUptoSaid : Prop := fnExactNextStampUptoRow.holds Try.pinned (OpenSpec.upto fnExactNextStampSpec)

/-- 'laws.FnExactGoodCaveat', WHERE WHAT IT READS IS OF BULK AT MOST 1048576: true; the input reads as it did. -/
def fnExactGoodCaveatUptoRow : OpenClaim := { program := "ytcgiegkcmofhhab", sum := "7e90cfd527b9d8c706e6c84ecefad9aed60b66c8ca5f22bb733588822a695a17", func := "loop.example/g00036/laws.FnExactGoodCaveat", spec := "fnExactGoodCaveat", unfollowed := true, recurses := true, apart := false, narrowed := true }
def FnExactGoodCaveatUptoSaid : Prop := fnExactGoodCaveatUptoRow.holds Try.pinned (OpenSpec.upto fnExactGoodCaveatSpec)

/-- 'laws.FnExactReadName', WHERE WHAT IT READS IS OF BULK AT MOST 1048576: true; the input reads as it did. -/
def fnExactReadNameUptoRow : OpenClaim := { program := "ytcgiegkcmofhhab", sum := "7e90cfd527b9d8c706e6c84ecefad9aed60b66c8ca5f22bb733588822a695a17", func := "loop.example/g00036/laws.FnExactReadName", spec := "fnExactReadName", inPlace := ["internal/bytealg.IndexByteString", "internal/bytealg.IndexString", "internal/abi.NoEscape", "internal/bytealg.MakeNoZero"], unfollowed := true, recurses := true, named := ["internal/bytealg.MaxLen"], apart := false, narrowed := true }
def FnExactReadNameUptoSaid : Prop := fnExactReadNameUptoRow.holds Try.pinned (OpenSpec.upto fnExactReadNameSpec)

/-- 'laws.FnExactVectorOf', WHERE WHAT IT READS IS OF BULK AT MOST 1048576: true; the input reads as it did. -/
def fnExactVectorOfUptoRow : OpenClaim := { program := "ytcgiegkcmofhhab", sum := "7e90cfd527b9d8c706e6c84ecefad9aed60b66c8ca5f22bb733588822a695a17", func := "loop.example/g00036/laws.FnExactVectorOf", spec := "fnExactVectorOf", inPlace := ["internal/bytealg.IndexByteString", "internal/bytealg.IndexString"], named := ["internal/bytealg.MaxLen"], apart := false, narrowed := true }
def FnExactVectorOfUptoSaid : Prop := fnExactVectorOfUptoRow.holds Try.pinned (OpenSpec.upto fnExactVectorOfSpec)

/-- 'laws.FnExactMissing', WHERE WHAT IT READS IS OF BULK AT MOST 1048576: true; the input reads as it did. -/
def fnExactMissingUptoRow : OpenClaim := { program := "ytcgiegkcmofhhab", sum := "7e90cfd527b9d8c706e6c84ecefad9aed60b66c8ca5f22bb733588822a695a17", func := "loop.example/g00036/laws.FnExactMissing", spec := "fnExactMissing", inPlace := ["internal/bytealg.IndexByteString", "internal/bytealg.IndexString"], unfollowed := true, recurses := true, named := ["internal/bytealg.MaxLen"], apart := false, narrowed := true }
def FnExactMissingUptoSaid : Prop := fnExactMissingUptoRow.holds Try.pinned (OpenSpec.upto fnExactMissingSpec)

/-- 'laws.FnExactTermHolds', WHERE WHAT IT READS IS OF BULK AT MOST 1048576: true; the input reads as it did. -/
def fnExactTermHoldsUptoRow : OpenClaim := { program := "ytcgiegkcmofhhab", sum := "7e90cfd527b9d8c706e6c84ecefad9aed60b66c8ca5f22bb733588822a695a17", func := "loop.example/g00036/laws.FnExactTermHolds", spec := "fnExactTermHolds", unfollowed := true, recurses := true, apart := false, narrowed := true }
def FnExactTermHoldsUptoSaid : Prop := fnExactTermHoldsUptoRow.holds Try.pinned (OpenSpec.upto fnExactTermHoldsSpec)

end Rows
end Go.Proofs.Ytcgiegkcmofhhab
