/-
  No cell of these rows narrows 'for every input' (looked for: loops, veiled, ifaces, maps, wideKeys, modest, calm, conditions, laid).
  DERIVED. THE GIVEN ROWS OF THIS SEAT. 6 by the template 'for every input the law returns true; each argument reads behind the call as it read before'; 0 by the template 'total and deterministic' (their statements: YtacfnpnaeiagnaaTotals.lean).
  GIVEN WITH THE SEED: the statements are not yours to turn. If you find one false, say at which input.
  Laid BY PROGRAM, IN A SANDBOX (cutbox-rows.mjs): the forced cells as the released guide's own fill.sh prints them over the translation 68e16dec39ddface… (all of the seat's roots in one cut). By AI agents, Wed Nov 11 2026. No macro, syntax, notation, axiom, sorry.
-/
import Derived.Test.YtacfnpnaeiagnaaChecked
import GoSem.Claim
import GoSem.ClaimJoined
import GoSem.ClaimMapViews
import Derived.JoinedTies
import Derived.KernelRfl
namespace Go.Proofs.Ytacfnpnaeiagnaa
/- THE CELL 'sum', in the pinned program and in every row, IS THE sha256 OF THE DUMP (.gsa) THAT YtacfnpnaeiagnaaProg.lean LOADS. Nothing in Lean hashes anything: it is a label: what it is worth is what the hold of that sum in a sandbox is worth. -/
noncomputable def Try.pinned : Pinned := { name := "ytacfnpnaeiagnaa", sum := "68e16dec39ddface3596b6fe142ffe9d7ed37f23a19375fdc3266016c84ed482", checked := Try.checked }
namespace Rows
def none {H : Type} : Left H := { results := [], args := [] }

/-- 'laws.FnExactReachOf': WHATEVER THE INPUT: true; the input reads as it did. -/
def fnExactReachOfSpec : ChangeSpec := { name := "fnExactReachOf", fn := fun _ => fun
  | [d] => { results := [.lit (.bool true)], args := [d] }
  | _ => none }
def fnExactReachOfRow : OpenClaim := { program := "ytacfnpnaeiagnaa", sum := "68e16dec39ddface3596b6fe142ffe9d7ed37f23a19375fdc3266016c84ed482", func := "loop.example/g00036/laws.FnExactReachOf", spec := "fnExactReachOf", unfollowed := true, recurses := true, apart := false }
def FnExactReachOfSaid : Prop := fnExactReachOfRow.holds Try.pinned (OpenSpec.ofChange fnExactReachOfSpec)

/-- ITS FALSE NEIGHBOUR: 'it returns false'. Refute it at one input. -/
def fnExactReachOfWrong : ChangeSpec := { name := "fnExactReachOf", fn := fun _ => fun
  | [d] => { results := [.lit (.bool false)], args := [d] }
  | _ => none }
def FnExactReachOfWrongFalsely : Prop := fnExactReachOfRow.holds Try.pinned (OpenSpec.ofChange fnExactReachOfWrong)

/-- 'laws.FnExactMembersOf': WHATEVER THE INPUT: true; the input reads as it did. -/
def fnExactMembersOfSpec : ChangeSpec := { name := "fnExactMembersOf", fn := fun _ => fun
  | [d1, d2] => { results := [.lit (.bool true)], args := [d1, d2] }
  | _ => none }
def fnExactMembersOfRow : OpenClaim := { program := "ytacfnpnaeiagnaa", sum := "68e16dec39ddface3596b6fe142ffe9d7ed37f23a19375fdc3266016c84ed482", func := "loop.example/g00036/laws.FnExactMembersOf", spec := "fnExactMembersOf", unfollowed := true, recurses := true, apart := false }
def FnExactMembersOfSaid : Prop := fnExactMembersOfRow.holds Try.pinned (OpenSpec.ofChange fnExactMembersOfSpec)

/-- ITS FALSE NEIGHBOUR: 'it returns false'. Refute it at one input. -/
def fnExactMembersOfWrong : ChangeSpec := { name := "fnExactMembersOf", fn := fun _ => fun
  | [d1, d2] => { results := [.lit (.bool false)], args := [d1, d2] }
  | _ => none }
def FnExactMembersOfWrongFalsely : Prop := fnExactMembersOfRow.holds Try.pinned (OpenSpec.ofChange fnExactMembersOfWrong)

/-- 'laws.FnExactGroupsOf': WHATEVER THE INPUT: true; the input reads as it did. -/
def fnExactGroupsOfSpec : ChangeSpec := { name := "fnExactGroupsOf", fn := fun _ => fun
  | [d1, d2] => { results := [.lit (.bool true)], args := [d1, d2] }
  | _ => none }
def fnExactGroupsOfRow : OpenClaim := { program := "ytacfnpnaeiagnaa", sum := "68e16dec39ddface3596b6fe142ffe9d7ed37f23a19375fdc3266016c84ed482", func := "loop.example/g00036/laws.FnExactGroupsOf", spec := "fnExactGroupsOf", unfollowed := true, recurses := true, apart := false }
def FnExactGroupsOfSaid : Prop := fnExactGroupsOfRow.holds Try.pinned (OpenSpec.ofChange fnExactGroupsOfSpec)

/-- ITS FALSE NEIGHBOUR: 'it returns false'. Refute it at one input. -/
def fnExactGroupsOfWrong : ChangeSpec := { name := "fnExactGroupsOf", fn := fun _ => fun
  | [d1, d2] => { results := [.lit (.bool false)], args := [d1, d2] }
  | _ => none }
def FnExactGroupsOfWrongFalsely : Prop := fnExactGroupsOfRow.holds Try.pinned (OpenSpec.ofChange fnExactGroupsOfWrong)

/-- 'laws.FnExactLoops': WHATEVER THE INPUT: true; the input reads as it did. -/
def fnExactLoopsSpec : ChangeSpec := { name := "fnExactLoops", fn := fun _ => fun
  | [d] => { results := [.lit (.bool true)], args := [d] }
  | _ => none }
def fnExactLoopsRow : OpenClaim := { program := "ytacfnpnaeiagnaa", sum := "68e16dec39ddface3596b6fe142ffe9d7ed37f23a19375fdc3266016c84ed482", func := "loop.example/g00036/laws.FnExactLoops", spec := "fnExactLoops", unfollowed := true, recurses := true, apart := false }
def FnExactLoopsSaid : Prop := fnExactLoopsRow.holds Try.pinned (OpenSpec.ofChange fnExactLoopsSpec)

/-- ITS FALSE NEIGHBOUR: 'it returns false'. Refute it at one input. -/
def fnExactLoopsWrong : ChangeSpec := { name := "fnExactLoops", fn := fun _ => fun
  | [d] => { results := [.lit (.bool false)], args := [d] }
  | _ => none }
def FnExactLoopsWrongFalsely : Prop := fnExactLoopsRow.holds Try.pinned (OpenSpec.ofChange fnExactLoopsWrong)

/-- 'laws.FnExactWayOf': WHATEVER THE INPUT: true; the input reads as it did. -/
def fnExactWayOfSpec : ChangeSpec := { name := "fnExactWayOf", fn := fun _ => fun
  | [d1, d2, d3] => { results := [.lit (.bool true)], args := [d1, d2, d3] }
  | _ => none }
def fnExactWayOfRow : OpenClaim := { program := "ytacfnpnaeiagnaa", sum := "68e16dec39ddface3596b6fe142ffe9d7ed37f23a19375fdc3266016c84ed482", func := "loop.example/g00036/laws.FnExactWayOf", spec := "fnExactWayOf", recurses := true, apart := false }
def FnExactWayOfSaid : Prop := fnExactWayOfRow.holds Try.pinned (OpenSpec.ofChange fnExactWayOfSpec)

/-- ITS FALSE NEIGHBOUR: 'it returns false'. Refute it at one input. -/
def fnExactWayOfWrong : ChangeSpec := { name := "fnExactWayOf", fn := fun _ => fun
  | [d1, d2, d3] => { results := [.lit (.bool false)], args := [d1, d2, d3] }
  | _ => none }
def FnExactWayOfWrongFalsely : Prop := fnExactWayOfRow.holds Try.pinned (OpenSpec.ofChange fnExactWayOfWrong)

/-- 'laws.FnExactDropNest': WHATEVER THE INPUT: true; the input reads as it did. -/
def fnExactDropNestSpec : ChangeSpec := { name := "fnExactDropNest", fn := fun _ => fun
  | [d1, d2, d3] => { results := [.lit (.bool true)], args := [d1, d2, d3] }
  | _ => none }
def fnExactDropNestRow : OpenClaim := { program := "ytacfnpnaeiagnaa", sum := "68e16dec39ddface3596b6fe142ffe9d7ed37f23a19375fdc3266016c84ed482", func := "loop.example/g00036/laws.FnExactDropNest", spec := "fnExactDropNest", unfollowed := true, recurses := true, apart := false }
def FnExactDropNestSaid : Prop := fnExactDropNestRow.holds Try.pinned (OpenSpec.ofChange fnExactDropNestSpec)

/-- ITS FALSE NEIGHBOUR: 'it returns false'. Refute it at one input. -/
def fnExactDropNestWrong : ChangeSpec := { name := "fnExactDropNest", fn := fun _ => fun
  | [d1, d2, d3] => { results := [.lit (.bool false)], args := [d1, d2, d3] }
  | _ => none }
def FnExactDropNestWrongFalsely : Prop := fnExactDropNestRow.holds Try.pinned (OpenSpec.ofChange fnExactDropNestWrong)

/- THE SECOND FORM. 'bulk': how many values and letters a reading holds, each counted each time it is reached (what is shared counts as often as it is met; a slice's spare places count too). A statement '..UptoSaid' is the law's where the arguments, and the package variables that the reading takes, are together of bulk at most 1048576: NARROWER than '..Said'. Prove '..Said' where nothing that the law and all that it calls make is longer than what came in: it says more and counts as full. Else prove '..UptoSaid'. A law counts once. -/
mutual
def uptoBulk {H : Type} : DataW H → Nat
  | .lit (.string bytes) => bytes.length + 1
  | .lit _ => 1
  | .nil => 1
  | .ptr d => uptoBulk d + 1
  | .slice elems spare => uptoBulkAll elems + uptoBulkAll spare + 1
  | .agg parts => uptoBulkAll parts + 1
  | .iface _ d => uptoBulk d + 1
  | .map entries => uptoBulkEntries entries + 1
  | .held _ => 1
def uptoBulkAll {H : Type} : List (DataW H) → Nat
  | [] => 0
  | d :: r => uptoBulk d + uptoBulkAll r
def uptoBulkEntries {H : Type} : List (Lit × DataW H) → Nat
  | [] => 0
  | x :: r => uptoBulkEntry x + uptoBulkEntries r
def uptoBulkEntry {H : Type} : Lit × DataW H → Nat
  | (.string bytes, d) => bytes.length + uptoBulk d + 1
  | (_, d) => uptoBulk d + 1
 end
def uptoSmall : (H : Type) → List (DataW H) → Bool := fun _ ds => decide (uptoBulkAll ds ≤ 1048576)
def OpenSpec.upto (s : _root_.Go.ChangeSpec) : _root_.Go.OpenSpec := { _root_.Go.OpenSpec.ofChange s with cond := some uptoSmall }

/-- 'laws.FnExactReachOf', WHERE WHAT IT READS IS OF BULK AT MOST 1048576: true; the input reads as it did. -/
def fnExactReachOfUptoRow : OpenClaim := { program := "ytacfnpnaeiagnaa", sum := "68e16dec39ddface3596b6fe142ffe9d7ed37f23a19375fdc3266016c84ed482", func := "loop.example/g00036/laws.FnExactReachOf", spec := "fnExactReachOf", unfollowed := true, recurses := true, apart := false, narrowed := true }
def FnExactReachOfUptoSaid : Prop := fnExactReachOfUptoRow.holds Try.pinned (OpenSpec.upto fnExactReachOfSpec)

/-- 'laws.FnExactMembersOf', WHERE WHAT IT READS IS OF BULK AT MOST 1048576: true; the input reads as it did. -/
def fnExactMembersOfUptoRow : OpenClaim := { program := "ytacfnpnaeiagnaa", sum := "68e16dec39ddface3596b6fe142ffe9d7ed37f23a19375fdc3266016c84ed482", func := "loop.example/g00036/laws.FnExactMembersOf", spec := "fnExactMembersOf", unfollowed := true, recurses := true, apart := false, narrowed := true }
def FnExactMembersOfUptoSaid : Prop := fnExactMembersOfUptoRow.holds Try.pinned (OpenSpec.upto fnExactMembersOfSpec)

/-- 'laws.FnExactGroupsOf', WHERE WHAT IT READS IS OF BULK AT MOST 1048576: true; the input reads as it did. -/
def fnExactGroupsOfUptoRow : OpenClaim := { program := "ytacfnpnaeiagnaa", sum := "68e16dec39ddface3596b6fe142ffe9d7ed37f23a19375fdc3266016c84ed482", func := "loop.example/g00036/laws.FnExactGroupsOf", spec := "fnExactGroupsOf", unfollowed := true, recurses := true, apart := false, narrowed := true }
def FnExactGroupsOfUptoSaid : Prop := fnExactGroupsOfUptoRow.holds Try.pinned (OpenSpec.upto fnExactGroupsOfSpec)

/-- 'laws.FnExactLoops', WHERE WHAT IT READS IS OF BULK AT MOST 1048576: true; the input reads as it did. -/
def fnExactLoopsUptoRow : OpenClaim := { program := "ytacfnpnaeiagnaa", sum := "68e16dec39ddface3596b6fe142ffe9d7ed37f23a19375fdc3266016c84ed482", func := "loop.example/g00036/laws.FnExactLoops", spec := "fnExactLoops", unfollowed := true, recurses := true, apart := false, narrowed := true }
def FnExactLoopsUptoSaid : Prop := fnExactLoopsUptoRow.holds Try.pinned (OpenSpec.upto fnExactLoopsSpec)

/-- 'laws.FnExactWayOf', WHERE WHAT IT READS IS OF BULK AT MOST 1048576: true; the input reads as it did. -/
def fnExactWayOfUptoRow : OpenClaim := { program := "ytacfnpnaeiagnaa", sum := "68e16dec39ddface3596b6fe142ffe9d7ed37f23a19375fdc3266016c84ed482", func := "loop.example/g00036/laws.FnExactWayOf", spec := "fnExactWayOf", recurses := true, apart := false, narrowed := true }
def FnExactWayOfUptoSaid : Prop := fnExactWayOfUptoRow.holds Try.pinned (OpenSpec.upto fnExactWayOfSpec)

/-- 'laws.FnExactDropNest', WHERE WHAT IT READS IS OF BULK AT MOST 1048576: true; the input reads as it did. -/
def fnExactDropNestUptoRow : OpenClaim := { program := "ytacfnpnaeiagnaa", sum := "68e16dec39ddface3596b6fe142ffe9d7ed37f23a19375fdc3266016c84ed482", func := "loop.example/g00036/laws.FnExactDropNest", spec := "fnExactDropNest", unfollowed := true, recurses := true, apart := false, narrowed := true }
def FnExactDropNestUptoSaid : Prop := fnExactDropNestUptoRow.holds Try.pinned (OpenSpec.upto fnExactDropNestSpec)

end Rows
end Go.Proofs.Ytacfnpnaeiagnaa
