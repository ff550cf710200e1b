/-
  No cell of these rows narrows 'for every input' (looked for: loops, veiled, ifaces, maps, wideKeys, modest, calm, conditions, laid).
  DERIVED. THE GIVEN ROWS OF THIS SEAT. 6 by the template 'for every input the law returns true; each argument reads behind the call as it read before'; 0 by the template 'total and deterministic' (their statements: YtmnlgdmojbhfcabTotals.lean).
  GIVEN WITH THE SEED: the statements are not yours to turn. If you find one false, say at which input.
  Laid BY PROGRAM, IN A SANDBOX (cutbox-rows.mjs): the forced cells as the released guide's own fill.sh prints them over the translation c966d52073117105… (all of the seat's roots in one cut). By AI agents, Wed Nov 11 2026. No macro, syntax, notation, axiom, sorry.
-/
import Derived.Test.YtmnlgdmojbhfcabChecked
import GoSem.Claim
import GoSem.ClaimJoined
import GoSem.ClaimMapViews
import Derived.JoinedTies
import Derived.KernelRfl
namespace Go.Proofs.Ytmnlgdmojbhfcab
/- THE CELL 'sum', in the pinned program and in every row, IS THE sha256 OF THE DUMP (.gsa) THAT YtmnlgdmojbhfcabProg.lean LOADS. Nothing in Lean hashes anything: it is a label: what it is worth is what the hold of that sum in a sandbox is worth. -/
noncomputable def Try.pinned : Pinned := { name := "ytmnlgdmojbhfcab", sum := "c966d52073117105182d02df9c631ab90f92801f7aa10f3377e7571fa2ac32ad", checked := Try.checked }
namespace Rows
def none {H : Type} : Left H := { results := [], args := [] }

/-- 'laws.FnExactUnder': WHATEVER THE INPUT: true; the input reads as it did. -/
def fnExactUnderSpec : ChangeSpec := { name := "fnExactUnder", fn := fun _ => fun
  | [d1, d2] => { results := [.lit (.bool true)], args := [d1, d2] }
  | _ => none }
def fnExactUnderRow : OpenClaim := { program := "ytmnlgdmojbhfcab", sum := "c966d52073117105182d02df9c631ab90f92801f7aa10f3377e7571fa2ac32ad", func := "loop.example/g00036/laws.FnExactUnder", spec := "fnExactUnder", unfollowed := true, recurses := true, apart := false }
def FnExactUnderSaid : Prop := fnExactUnderRow.holds Try.pinned (OpenSpec.ofChange fnExactUnderSpec)

/-- ITS FALSE NEIGHBOUR: 'it returns false'. Refute it at one input. -/
def fnExactUnderWrong : ChangeSpec := { name := "fnExactUnder", fn := fun _ => fun
  | [d1, d2] => { results := [.lit (.bool false)], args := [d1, d2] }
  | _ => none }
def FnExactUnderWrongFalsely : Prop := fnExactUnderRow.holds Try.pinned (OpenSpec.ofChange fnExactUnderWrong)

/-- 'laws.FnExactSign': WHATEVER THE INPUT: true; the input reads as it did. -/
def fnExactSignSpec : ChangeSpec := { name := "fnExactSign", fn := fun _ => fun
  | [d1, d2] => { results := [.lit (.bool true)], args := [d1, d2] }
  | _ => none }
def fnExactSignRow : OpenClaim := { program := "ytmnlgdmojbhfcab", sum := "c966d52073117105182d02df9c631ab90f92801f7aa10f3377e7571fa2ac32ad", func := "loop.example/g00036/laws.FnExactSign", spec := "fnExactSign", unfollowed := true, recurses := true, apart := false }
def FnExactSignSaid : Prop := fnExactSignRow.holds Try.pinned (OpenSpec.ofChange fnExactSignSpec)

/-- ITS FALSE NEIGHBOUR: 'it returns false'. Refute it at one input. -/
def fnExactSignWrong : ChangeSpec := { name := "fnExactSign", fn := fun _ => fun
  | [d1, d2] => { results := [.lit (.bool false)], args := [d1, d2] }
  | _ => none }
def FnExactSignWrongFalsely : Prop := fnExactSignRow.holds Try.pinned (OpenSpec.ofChange fnExactSignWrong)

/-- 'laws.FnExactGoodNests': WHATEVER THE INPUT: true; the input reads as it did. -/
def fnExactGoodNestsSpec : ChangeSpec := { name := "fnExactGoodNests", fn := fun _ => fun
  | [d] => { results := [.lit (.bool true)], args := [d] }
  | _ => none }
def fnExactGoodNestsRow : OpenClaim := { program := "ytmnlgdmojbhfcab", sum := "c966d52073117105182d02df9c631ab90f92801f7aa10f3377e7571fa2ac32ad", func := "loop.example/g00036/laws.FnExactGoodNests", spec := "fnExactGoodNests", apart := false }
def FnExactGoodNestsSaid : Prop := fnExactGoodNestsRow.holds Try.pinned (OpenSpec.ofChange fnExactGoodNestsSpec)

/-- ITS FALSE NEIGHBOUR: 'it returns false'. Refute it at one input. -/
def fnExactGoodNestsWrong : ChangeSpec := { name := "fnExactGoodNests", fn := fun _ => fun
  | [d] => { results := [.lit (.bool false)], args := [d] }
  | _ => none }
def FnExactGoodNestsWrongFalsely : Prop := fnExactGoodNestsRow.holds Try.pinned (OpenSpec.ofChange fnExactGoodNestsWrong)

/-- 'laws.FnExactSplit': WHATEVER THE INPUT: true; the input reads as it did. -/
def fnExactSplitSpec : ChangeSpec := { name := "fnExactSplit", fn := fun _ => fun
  | [d1, d2, d3, d4] => { results := [.lit (.bool true)], args := [d1, d2, d3, d4] }
  | _ => none }
def fnExactSplitRow : OpenClaim := { program := "ytmnlgdmojbhfcab", sum := "c966d52073117105182d02df9c631ab90f92801f7aa10f3377e7571fa2ac32ad", func := "loop.example/g00036/laws.FnExactSplit", spec := "fnExactSplit", unfollowed := true, recurses := true, apart := false }
def FnExactSplitSaid : Prop := fnExactSplitRow.holds Try.pinned (OpenSpec.ofChange fnExactSplitSpec)

/-- ITS FALSE NEIGHBOUR: 'it returns false'. Refute it at one input. -/
def fnExactSplitWrong : ChangeSpec := { name := "fnExactSplit", fn := fun _ => fun
  | [d1, d2, d3, d4] => { results := [.lit (.bool false)], args := [d1, d2, d3, d4] }
  | _ => none }
def FnExactSplitWrongFalsely : Prop := fnExactSplitRow.holds Try.pinned (OpenSpec.ofChange fnExactSplitWrong)

/-- 'laws.FnExactCompareAtoms': WHATEVER THE INPUT: true; the input reads as it did. -/
def fnExactCompareAtomsSpec : ChangeSpec := { name := "fnExactCompareAtoms", fn := fun _ => fun
  | [d1, d2] => { results := [.lit (.bool true)], args := [d1, d2] }
  | _ => none }
def fnExactCompareAtomsRow : OpenClaim := { program := "ytmnlgdmojbhfcab", sum := "c966d52073117105182d02df9c631ab90f92801f7aa10f3377e7571fa2ac32ad", func := "loop.example/g00036/laws.FnExactCompareAtoms", spec := "fnExactCompareAtoms", apart := false }
def FnExactCompareAtomsSaid : Prop := fnExactCompareAtomsRow.holds Try.pinned (OpenSpec.ofChange fnExactCompareAtomsSpec)

/-- ITS FALSE NEIGHBOUR: 'it returns false'. Refute it at one input. -/
def fnExactCompareAtomsWrong : ChangeSpec := { name := "fnExactCompareAtoms", fn := fun _ => fun
  | [d1, d2] => { results := [.lit (.bool false)], args := [d1, d2] }
  | _ => none }
def FnExactCompareAtomsWrongFalsely : Prop := fnExactCompareAtomsRow.holds Try.pinned (OpenSpec.ofChange fnExactCompareAtomsWrong)

/-- 'laws.FnExactGoodChange': WHATEVER THE INPUT: true; the input reads as it did. -/
def fnExactGoodChangeSpec : ChangeSpec := { name := "fnExactGoodChange", fn := fun _ => fun
  | [d] => { results := [.lit (.bool true)], args := [d] }
  | _ => none }
def fnExactGoodChangeRow : OpenClaim := { program := "ytmnlgdmojbhfcab", sum := "c966d52073117105182d02df9c631ab90f92801f7aa10f3377e7571fa2ac32ad", func := "loop.example/g00036/laws.FnExactGoodChange", spec := "fnExactGoodChange", inPlace := ["internal/bytealg.IndexByteString", "internal/bytealg.IndexString"], named := ["internal/bytealg.MaxLen"], apart := false }
def FnExactGoodChangeSaid : Prop := fnExactGoodChangeRow.holds Try.pinned (OpenSpec.ofChange fnExactGoodChangeSpec)

/-- ITS FALSE NEIGHBOUR: 'it returns false'. Refute it at one input. -/
def fnExactGoodChangeWrong : ChangeSpec := { name := "fnExactGoodChange", fn := fun _ => fun
  | [d] => { results := [.lit (.bool false)], args := [d] }
  | _ => none }
def FnExactGoodChangeWrongFalsely : Prop := fnExactGoodChangeRow.holds Try.pinned (OpenSpec.ofChange fnExactGoodChangeWrong)

/- THE SECOND FORM. 'bulk': how many values and letters a reading holds, each counted each time it is reached (what is shared counts as often as it is met; a slice's spare places count too). A statement '..UptoSaid' is the law's where the arguments, and the package variables that the reading takes, are together of bulk at most 1048576: NARROWER than '..Said'. Prove '..Said' where nothing that the law and all that it calls make is longer than what came in: it says more and counts as full. Else prove '..UptoSaid'. A law counts once. -/
mutual
def uptoBulk {H : Type} : DataW H → Nat
  | .lit (.string bytes) => bytes.length + 1
  | .lit _ => 1
  | .nil => 1
  | .ptr d => uptoBulk d + 1
  | .slice elems spare => uptoBulkAll elems + uptoBulkAll spare + 1
  | .agg parts => uptoBulkAll parts + 1
  | .iface _ d => uptoBulk d + 1
  | .map entries => uptoBulkEntries entries + 1
  | .held _ => 1
def uptoBulkAll {H : Type} : List (DataW H) → Nat
  | [] => 0
  | d :: r => uptoBulk d + uptoBulkAll r
def uptoBulkEntries {H : Type} : List (Lit × DataW H) → Nat
  | [] => 0
  | x :: r => uptoBulkEntry x + uptoBulkEntries r
def uptoBulkEntry {H : Type} : Lit × DataW H → Nat
  | (.string bytes, d) => bytes.length + uptoBulk d + 1
  | (_, d) => uptoBulk d + 1
 end
def uptoSmall : (H : Type) → List (DataW H) → Bool := fun _ ds => decide (uptoBulkAll ds ≤ 1048576)
def OpenSpec.upto (s : _root_.Go.ChangeSpec) : _root_.Go.OpenSpec := { _root_.Go.OpenSpec.ofChange s with cond := some uptoSmall }

/-- 'laws.FnExactUnder', WHERE WHAT IT READS IS OF BULK AT MOST 1048576: true; the input reads as it did. -/
def fnExactUnderUptoRow : OpenClaim := { program := "ytmnlgdmojbhfcab", sum := "c966d52073117105182d02df9c631ab90f92801f7aa10f3377e7571fa2ac32ad", func := "loop.example/g00036/laws.FnExactUnder", spec := "fnExactUnder", unfollowed := true, recurses := true, apart := false, narrowed := true }
def FnExactUnderUptoSaid : Prop := fnExactUnderUptoRow.holds Try.pinned (OpenSpec.upto fnExactUnderSpec)

/-- 'laws.FnExactSign', WHERE WHAT IT READS IS OF BULK AT MOST 1048576: true; the input reads as it did. -/
def fnExactSignUptoRow : OpenClaim := { program := "ytmnlgdmojbhfcab", sum := "c966d52073117105182d02df9c631ab90f92801f7aa10f3377e7571fa2ac32ad", func := "loop.example/g00036/laws.FnExactSign", spec := "fnExactSign", unfollowed := true, recurses := true, apart := false, narrowed := true }
def FnExactSignUptoSaid : Prop := fnExactSignUptoRow.holds Try.pinned (OpenSpec.upto fnExactSignSpec)

/-- 'laws.FnExactGoodNests', WHERE WHAT IT READS IS OF BULK AT MOST 1048576: true; the input reads as it did. -/
def fnExactGoodNestsUptoRow : OpenClaim := { program := "ytmnlgdmojbhfcab", sum := "c966d52073117105182d02df9c631ab90f92801f7aa10f3377e7571fa2ac32ad", func := "loop.example/g00036/laws.FnExactGoodNests", spec := "fnExactGoodNests", apart := false, narrowed := true }
def FnExactGoodNestsUptoSaid : Prop := fnExactGoodNestsUptoRow.holds Try.pinned (OpenSpec.upto fnExactGoodNestsSpec)

/-- 'laws.FnExactSplit', WHERE WHAT IT READS IS OF BULK AT MOST 1048576: true; the input reads as it did. -/
def fnExactSplitUptoRow : OpenClaim := { program := "ytmnlgdmojbhfcab", sum := "c966d52073117105182d02df9c631ab90f92801f7aa10f3377e7571fa2ac32ad", func := "loop.example/g00036/laws.FnExactSplit", spec := "fnExactSplit", unfollowed := true, recurses := true, apart := false, narrowed := true }
def FnExactSplitUptoSaid : Prop := fnExactSplitUptoRow.holds Try.pinned (OpenSpec.upto fnExactSplitSpec)

/-- 'laws.FnExactCompareAtoms', WHERE WHAT IT READS IS OF BULK AT MOST 1048576: true; the input reads as it did. -/
def fnExactCompareAtomsUptoRow : OpenClaim := { program := "ytmnlgdmojbhfcab", sum := "c966d52073117105182d02df9c631ab90f92801f7aa10f3377e7571fa2ac32ad", func := "loop.example/g00036/laws.FnExactCompareAtoms", spec := "fnExactCompareAtoms", apart := false, narrowed := true }
def FnExactCompareAtomsUptoSaid : Prop := fnExactCompareAtomsUptoRow.holds Try.pinned (OpenSpec.upto fnExactCompareAtomsSpec)

/-- 'laws.FnExactGoodChange', WHERE WHAT IT READS IS OF BULK AT MOST 1048576: true; the input reads as it did. -/
def fnExactGoodChangeUptoRow : OpenClaim := { program := "ytmnlgdmojbhfcab", sum := "c966d52073117105182d02df9c631ab90f92801f7aa10f3377e7571fa2ac32ad", func := "loop.example/g00036/laws.FnExactGoodChange", spec := "fnExactGoodChange", inPlace := ["internal/bytealg.IndexByteString", "internal/bytealg.IndexString"], named := ["internal/bytealg.MaxLen"], apart := false, narrowed := true }
def FnExactGoodChangeUptoSaid : Prop := fnExactGoodChangeUptoRow.holds Try.pinned (OpenSpec.upto fnExactGoodChangeSpec)

end Rows
end Go.Proofs.Ytmnlgdmojbhfcab
