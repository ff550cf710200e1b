/-
  No cell of these rows narrows 'for every input' (looked for: loops, veiled, ifaces, maps, wideKeys, modest, calm, conditions, laid).
  DERIVED. THE GIVEN ROWS OF THIS SEAT. 4 by the template 'for every input the law returns true; each argument reads behind the call as it read before'; 0 by the template 'total and deterministic' (their statements: YtacfnpnaeiagnabTotals.lean).
  GIVEN WITH THE SEED: the statements are not yours to turn. If you find one false, say at which input.
  Laid BY PROGRAM, IN A SANDBOX (cutbox-rows.mjs): the forced cells as the released guide's own fill.sh prints them over the translation 62465616c136896c… (all of the seat's roots in one cut). By AI agents, Wed Nov 11 2026. No macro, syntax, notation, axiom, sorry.
-/
import Derived.Test.YtacfnpnaeiagnabChecked
import GoSem.Claim
import GoSem.ClaimJoined
import GoSem.ClaimMapViews
import Derived.JoinedTies
import Derived.KernelRfl
namespace Go.Proofs.Ytacfnpnaeiagnab
/- THE CELL 'sum', in the pinned program and in every row, IS THE sha256 OF THE DUMP (.gsa) THAT YtacfnpnaeiagnabProg.lean LOADS. Nothing in Lean hashes anything: it is a label: what it is worth is what the hold of that sum in a sandbox is worth. -/
noncomputable def Try.pinned : Pinned := { name := "ytacfnpnaeiagnab", sum := "62465616c136896c4df087fc2b5a5427028ffe7d3bfe82815843cebe060be1ea", checked := Try.checked }
namespace Rows
def none {H : Type} : Left H := { results := [], args := [] }

/-- 'laws.FnExactAddNest': WHATEVER THE INPUT: true; the input reads as it did. -/
def fnExactAddNestSpec : ChangeSpec := { name := "fnExactAddNest", fn := fun _ => fun
  | [d1, d2, d3] => { results := [.lit (.bool true)], args := [d1, d2, d3] }
  | _ => none }
def fnExactAddNestRow : OpenClaim := { program := "ytacfnpnaeiagnab", sum := "62465616c136896c4df087fc2b5a5427028ffe7d3bfe82815843cebe060be1ea", func := "loop.example/g00036/laws.FnExactAddNest", spec := "fnExactAddNest", inPlace := ["slices.overlaps[loop.example/g00036/impl.Nest]"], unfollowed := true, recurses := true, apart := false }
def FnExactAddNestSaid : Prop := fnExactAddNestRow.holds Try.pinned (OpenSpec.ofChange fnExactAddNestSpec)

/-- ITS FALSE NEIGHBOUR: 'it returns false'. Refute it at one input. -/
def fnExactAddNestWrong : ChangeSpec := { name := "fnExactAddNest", fn := fun _ => fun
  | [d1, d2, d3] => { results := [.lit (.bool false)], args := [d1, d2, d3] }
  | _ => none }
def FnExactAddNestWrongFalsely : Prop := fnExactAddNestRow.holds Try.pinned (OpenSpec.ofChange fnExactAddNestWrong)

/-- 'laws.FnExactReceive': WHATEVER THE INPUT: true; the input reads as it did. -/
def fnExactReceiveSpec : ChangeSpec := { name := "fnExactReceive", fn := fun _ => fun
  | [d1, d2] => { results := [.lit (.bool true)], args := [d1, d2] }
  | _ => none }
def fnExactReceiveRow : OpenClaim := { program := "ytacfnpnaeiagnab", sum := "62465616c136896c4df087fc2b5a5427028ffe7d3bfe82815843cebe060be1ea", func := "loop.example/g00036/laws.FnExactReceive", spec := "fnExactReceive", inPlace := ["internal/bytealg.IndexByteString", "internal/bytealg.IndexString", "slices.overlaps[loop.example/g00036/impl.DirChange]"], unfollowed := true, recurses := true, named := ["internal/bytealg.MaxLen"], apart := false }
def FnExactReceiveSaid : Prop := fnExactReceiveRow.holds Try.pinned (OpenSpec.ofChange fnExactReceiveSpec)

/-- ITS FALSE NEIGHBOUR: 'it returns false'. Refute it at one input. -/
def fnExactReceiveWrong : ChangeSpec := { name := "fnExactReceive", fn := fun _ => fun
  | [d1, d2] => { results := [.lit (.bool false)], args := [d1, d2] }
  | _ => none }
def FnExactReceiveWrongFalsely : Prop := fnExactReceiveRow.holds Try.pinned (OpenSpec.ofChange fnExactReceiveWrong)

/-- 'laws.FnExactSync': WHATEVER THE INPUT: true; the input reads as it did. -/
def fnExactSyncSpec : ChangeSpec := { name := "fnExactSync", fn := fun _ => fun
  | [d1, d2] => { results := [.lit (.bool true)], args := [d1, d2] }
  | _ => none }
def fnExactSyncRow : OpenClaim := { program := "ytacfnpnaeiagnab", sum := "62465616c136896c4df087fc2b5a5427028ffe7d3bfe82815843cebe060be1ea", func := "loop.example/g00036/laws.FnExactSync", spec := "fnExactSync", inPlace := ["internal/bytealg.IndexByteString", "internal/bytealg.IndexString", "slices.overlaps[loop.example/g00036/impl.DirChange]"], unfollowed := true, recurses := true, named := ["internal/bytealg.MaxLen"], apart := false }
def FnExactSyncSaid : Prop := fnExactSyncRow.holds Try.pinned (OpenSpec.ofChange fnExactSyncSpec)

/-- ITS FALSE NEIGHBOUR: 'it returns false'. Refute it at one input. -/
def fnExactSyncWrong : ChangeSpec := { name := "fnExactSync", fn := fun _ => fun
  | [d1, d2] => { results := [.lit (.bool false)], args := [d1, d2] }
  | _ => none }
def FnExactSyncWrongFalsely : Prop := fnExactSyncRow.holds Try.pinned (OpenSpec.ofChange fnExactSyncWrong)

/-- 'laws.FnExactSetOf': WHATEVER THE INPUT: true; the input reads as it did. -/
def fnExactSetOfSpec : ChangeSpec := { name := "fnExactSetOf", fn := fun _ => fun
  | [d] => { results := [.lit (.bool true)], args := [d] }
  | _ => none }
def fnExactSetOfRow : OpenClaim := { program := "ytacfnpnaeiagnab", sum := "62465616c136896c4df087fc2b5a5427028ffe7d3bfe82815843cebe060be1ea", func := "loop.example/g00036/laws.FnExactSetOf", spec := "fnExactSetOf", unfollowed := true, recurses := true, apart := false }
def FnExactSetOfSaid : Prop := fnExactSetOfRow.holds Try.pinned (OpenSpec.ofChange fnExactSetOfSpec)

/-- ITS FALSE NEIGHBOUR: 'it returns false'. Refute it at one input. -/
def fnExactSetOfWrong : ChangeSpec := { name := "fnExactSetOf", fn := fun _ => fun
  | [d] => { results := [.lit (.bool false)], args := [d] }
  | _ => none }
def FnExactSetOfWrongFalsely : Prop := fnExactSetOfRow.holds Try.pinned (OpenSpec.ofChange fnExactSetOfWrong)

/- THE SECOND FORM. 'bulk': how many values and letters a reading holds, each counted each time it is reached (what is shared counts as often as it is met; a slice's spare places count too). A statement '..UptoSaid' is the law's where the arguments, and the package variables that the reading takes, are together of bulk at most 1048576: NARROWER than '..Said'. Prove '..Said' where nothing that the law and all that it calls make is longer than what came in: it says more and counts as full. Else prove '..UptoSaid'. A law counts once. -/
mutual
def uptoBulk {H : Type} : DataW H → Nat
  | .lit (.string bytes) => bytes.length + 1
  | .lit _ => 1
  | .nil => 1
  | .ptr d => uptoBulk d + 1
  | .slice elems spare => uptoBulkAll elems + uptoBulkAll spare + 1
  | .agg parts => uptoBulkAll parts + 1
  | .iface _ d => uptoBulk d + 1
  | .map entries => uptoBulkEntries entries + 1
  | .held _ => 1
def uptoBulkAll {H : Type} : List (DataW H) → Nat
  | [] => 0
  | d :: r => uptoBulk d + uptoBulkAll r
def uptoBulkEntries {H : Type} : List (Lit × DataW H) → Nat
  | [] => 0
  | x :: r => uptoBulkEntry x + uptoBulkEntries r
def uptoBulkEntry {H : Type} : Lit × DataW H → Nat
  | (.string bytes, d) => bytes.length + uptoBulk d + 1
  | (_, d) => uptoBulk d + 1
 end
def uptoSmall : (H : Type) → List (DataW H) → Bool := fun _ ds => decide (uptoBulkAll ds ≤ 1048576)
def OpenSpec.upto (s : _root_.Go.ChangeSpec) : _root_.Go.OpenSpec := { _root_.Go.OpenSpec.ofChange s with cond := some uptoSmall }

/-- 'laws.FnExactAddNest', WHERE WHAT IT READS IS OF BULK AT MOST 1048576: true; the input reads as it did. -/
def fnExactAddNestUptoRow : OpenClaim := { program := "ytacfnpnaeiagnab", sum := "62465616c136896c4df087fc2b5a5427028ffe7d3bfe82815843cebe060be1ea", func := "loop.example/g00036/laws.FnExactAddNest", spec := "fnExactAddNest", inPlace := ["slices.overlaps[loop.example/g00036/impl.Nest]"], unfollowed := true, recurses := true, apart := false, narrowed := true }
def FnExactAddNestUptoSaid : Prop := fnExactAddNestUptoRow.holds Try.pinned (OpenSpec.upto fnExactAddNestSpec)

/-- 'laws.FnExactReceive', WHERE WHAT IT READS IS OF BULK AT MOST 1048576: true; the input reads as it did. -/
def fnExactReceiveUptoRow : OpenClaim := { program := "ytacfnpnaeiagnab", sum := "62465616c136896c4df087fc2b5a5427028ffe7d3bfe82815843cebe060be1ea", func := "loop.example/g00036/laws.FnExactReceive", spec := "fnExactReceive", inPlace := ["internal/bytealg.IndexByteString", "internal/bytealg.IndexString", "slices.overlaps[loop.example/g00036/impl.DirChange]"], unfollowed := true, recurses := true, named := ["internal/bytealg.MaxLen"], apart := false, narrowed := true }
def FnExactReceiveUptoSaid : Prop := fnExactReceiveUptoRow.holds Try.pinned (OpenSpec.upto fnExactReceiveSpec)

/-- 'laws.FnExactSync', WHERE WHAT IT READS IS OF BULK AT MOST 1048576: true; the input reads as it did. -/
def fnExactSyncUptoRow : OpenClaim := { program := "ytacfnpnaeiagnab", sum := "62465616c136896c4df087fc2b5a5427028ffe7d3bfe82815843cebe060be1ea", func := "loop.example/g00036/laws.FnExactSync", spec := "fnExactSync", inPlace := ["internal/bytealg.IndexByteString", "internal/bytealg.IndexString", "slices.overlaps[loop.example/g00036/impl.DirChange]"], unfollowed := true, recurses := true, named := ["internal/bytealg.MaxLen"], apart := false, narrowed := true }
def FnExactSyncUptoSaid : Prop := fnExactSyncUptoRow.holds Try.pinned (OpenSpec.upto fnExactSyncSpec)

/-- 'laws.FnExactSetOf', WHERE WHAT IT READS IS OF BULK AT MOST 1048576: true; the input reads as it did. -/
def fnExactSetOfUptoRow : OpenClaim := { program := "ytacfnpnaeiagnab", sum := "62465616c136896c4df087fc2b5a5427028ffe7d3bfe82815843cebe060be1ea", func := "loop.example/g00036/laws.FnExactSetOf", spec := "fnExactSetOf", unfollowed := true, recurses := true, apart := false, narrowed := true }
def FnExactSetOfUptoSaid : Prop := fnExactSetOfUptoRow.holds Try.pinned (OpenSpec.upto fnExactSetOfSpec)

end Rows
end Go.Proofs.Ytacfnpnaeiagnab
