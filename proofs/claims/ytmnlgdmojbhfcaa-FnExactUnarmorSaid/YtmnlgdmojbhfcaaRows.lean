/-
  No cell of these rows narrows 'for every input' (looked for: loops, veiled, ifaces, maps, wideKeys, modest, calm, conditions, laid).
  DERIVED. THE GIVEN ROWS OF THIS SEAT. 6 by the template 'for every input the law returns true; each argument reads behind the call as it read before'; 0 by the template 'total and deterministic' (their statements: YtmnlgdmojbhfcaaTotals.lean).
  GIVEN WITH THE SEED: the statements are not yours to turn. If you find one false, say at which input.
  Laid BY PROGRAM, IN A SANDBOX (cutbox-rows.mjs): the forced cells as the released guide's own fill.sh prints them over the translation d52fb9b464f5a33b… (all of the seat's roots in one cut). By AI agents, Wed Nov 11 2026. No macro, syntax, notation, axiom, sorry.
-/
import Derived.Test.YtmnlgdmojbhfcaaChecked
import GoSem.Claim
import GoSem.ClaimJoined
import GoSem.ClaimMapViews
import Derived.JoinedTies
import Derived.KernelRfl
namespace Go.Proofs.Ytmnlgdmojbhfcaa
/- THE CELL 'sum', in the pinned program and in every row, IS THE sha256 OF THE DUMP (.gsa) THAT YtmnlgdmojbhfcaaProg.lean LOADS. Nothing in Lean hashes anything: it is a label: what it is worth is what the hold of that sum in a sandbox is worth. -/
noncomputable def Try.pinned : Pinned := { name := "ytmnlgdmojbhfcaa", sum := "d52fb9b464f5a33b7a501dcf5f5d35e4b1c56253a8f0b16e8f79a8e11bac0947", checked := Try.checked }
namespace Rows
def none {H : Type} : Left H := { results := [], args := [] }

/-- 'laws.FnExactJoin': WHATEVER THE INPUT: true; the input reads as it did. -/
def fnExactJoinSpec : ChangeSpec := { name := "fnExactJoin", fn := fun _ => fun
  | [d] => { results := [.lit (.bool true)], args := [d] }
  | _ => none }
def fnExactJoinRow : OpenClaim := { program := "ytmnlgdmojbhfcaa", sum := "d52fb9b464f5a33b7a501dcf5f5d35e4b1c56253a8f0b16e8f79a8e11bac0947", func := "loop.example/g00036/laws.FnExactJoin", spec := "fnExactJoin", apart := false }
def FnExactJoinSaid : Prop := fnExactJoinRow.holds Try.pinned (OpenSpec.ofChange fnExactJoinSpec)

/-- ITS FALSE NEIGHBOUR: 'it returns false'. Refute it at one input. -/
def fnExactJoinWrong : ChangeSpec := { name := "fnExactJoin", fn := fun _ => fun
  | [d] => { results := [.lit (.bool false)], args := [d] }
  | _ => none }
def FnExactJoinWrongFalsely : Prop := fnExactJoinRow.holds Try.pinned (OpenSpec.ofChange fnExactJoinWrong)

/-- 'laws.FnExactGoodAtom': WHATEVER THE INPUT: true; the input reads as it did. -/
def fnExactGoodAtomSpec : ChangeSpec := { name := "fnExactGoodAtom", fn := fun _ => fun
  | [d] => { results := [.lit (.bool true)], args := [d] }
  | _ => none }
def fnExactGoodAtomRow : OpenClaim := { program := "ytmnlgdmojbhfcaa", sum := "d52fb9b464f5a33b7a501dcf5f5d35e4b1c56253a8f0b16e8f79a8e11bac0947", func := "loop.example/g00036/laws.FnExactGoodAtom", spec := "fnExactGoodAtom", apart := false }
def FnExactGoodAtomSaid : Prop := fnExactGoodAtomRow.holds Try.pinned (OpenSpec.ofChange fnExactGoodAtomSpec)

/-- ITS FALSE NEIGHBOUR: 'it returns false'. Refute it at one input. -/
def fnExactGoodAtomWrong : ChangeSpec := { name := "fnExactGoodAtom", fn := fun _ => fun
  | [d] => { results := [.lit (.bool false)], args := [d] }
  | _ => none }
def FnExactGoodAtomWrongFalsely : Prop := fnExactGoodAtomRow.holds Try.pinned (OpenSpec.ofChange fnExactGoodAtomWrong)

/-- 'laws.FnExactGoodDirName': WHATEVER THE INPUT: true; the input reads as it did. -/
def fnExactGoodDirNameSpec : ChangeSpec := { name := "fnExactGoodDirName", fn := fun _ => fun
  | [d] => { results := [.lit (.bool true)], args := [d] }
  | _ => none }
def fnExactGoodDirNameRow : OpenClaim := { program := "ytmnlgdmojbhfcaa", sum := "d52fb9b464f5a33b7a501dcf5f5d35e4b1c56253a8f0b16e8f79a8e11bac0947", func := "loop.example/g00036/laws.FnExactGoodDirName", spec := "fnExactGoodDirName", unfollowed := true, recurses := true, apart := false }
def FnExactGoodDirNameSaid : Prop := fnExactGoodDirNameRow.holds Try.pinned (OpenSpec.ofChange fnExactGoodDirNameSpec)

/-- ITS FALSE NEIGHBOUR: 'it returns false'. Refute it at one input. -/
def fnExactGoodDirNameWrong : ChangeSpec := { name := "fnExactGoodDirName", fn := fun _ => fun
  | [d] => { results := [.lit (.bool false)], args := [d] }
  | _ => none }
def FnExactGoodDirNameWrongFalsely : Prop := fnExactGoodDirNameRow.holds Try.pinned (OpenSpec.ofChange fnExactGoodDirNameWrong)

/-- 'laws.FnExactAddrIn': WHATEVER THE INPUT: true; the input reads as it did. -/
def fnExactAddrInSpec : ChangeSpec := { name := "fnExactAddrIn", fn := fun _ => fun
  | [d1, d2] => { results := [.lit (.bool true)], args := [d1, d2] }
  | _ => none }
def fnExactAddrInRow : OpenClaim := { program := "ytmnlgdmojbhfcaa", sum := "d52fb9b464f5a33b7a501dcf5f5d35e4b1c56253a8f0b16e8f79a8e11bac0947", func := "loop.example/g00036/laws.FnExactAddrIn", spec := "fnExactAddrIn", apart := false }
def FnExactAddrInSaid : Prop := fnExactAddrInRow.holds Try.pinned (OpenSpec.ofChange fnExactAddrInSpec)

/-- ITS FALSE NEIGHBOUR: 'it returns false'. Refute it at one input. -/
def fnExactAddrInWrong : ChangeSpec := { name := "fnExactAddrIn", fn := fun _ => fun
  | [d1, d2] => { results := [.lit (.bool false)], args := [d1, d2] }
  | _ => none }
def FnExactAddrInWrongFalsely : Prop := fnExactAddrInRow.holds Try.pinned (OpenSpec.ofChange fnExactAddrInWrong)

/-- 'laws.FnExactVerify': WHATEVER THE INPUT: true; the input reads as it did. -/
def fnExactVerifySpec : ChangeSpec := { name := "fnExactVerify", fn := fun _ => fun
  | [d1, d2, d3] => { results := [.lit (.bool true)], args := [d1, d2, d3] }
  | _ => none }
def fnExactVerifyRow : OpenClaim := { program := "ytmnlgdmojbhfcaa", sum := "d52fb9b464f5a33b7a501dcf5f5d35e4b1c56253a8f0b16e8f79a8e11bac0947", func := "loop.example/g00036/laws.FnExactVerify", spec := "fnExactVerify", unfollowed := true, recurses := true, apart := false }
def FnExactVerifySaid : Prop := fnExactVerifyRow.holds Try.pinned (OpenSpec.ofChange fnExactVerifySpec)

/-- ITS FALSE NEIGHBOUR: 'it returns false'. Refute it at one input. -/
def fnExactVerifyWrong : ChangeSpec := { name := "fnExactVerify", fn := fun _ => fun
  | [d1, d2, d3] => { results := [.lit (.bool false)], args := [d1, d2, d3] }
  | _ => none }
def FnExactVerifyWrongFalsely : Prop := fnExactVerifyRow.holds Try.pinned (OpenSpec.ofChange fnExactVerifyWrong)

/-- 'laws.FnExactUnarmor': WHATEVER THE INPUT: true; the input reads as it did. -/
def fnExactUnarmorSpec : ChangeSpec := { name := "fnExactUnarmor", fn := fun _ => fun
  | [d] => { results := [.lit (.bool true)], args := [d] }
  | _ => none }
def fnExactUnarmorRow : OpenClaim := { program := "ytmnlgdmojbhfcaa", sum := "d52fb9b464f5a33b7a501dcf5f5d35e4b1c56253a8f0b16e8f79a8e11bac0947", func := "loop.example/g00036/laws.FnExactUnarmor", spec := "fnExactUnarmor", inPlace := ["internal/bytealg.IndexByteString", "internal/abi.NoEscape"], apart := false }
def FnExactUnarmorSaid : Prop := fnExactUnarmorRow.holds Try.pinned (OpenSpec.ofChange fnExactUnarmorSpec)

/-- ITS FALSE NEIGHBOUR: 'it returns false'. Refute it at one input. -/
def fnExactUnarmorWrong : ChangeSpec := { name := "fnExactUnarmor", fn := fun _ => fun
  | [d] => { results := [.lit (.bool false)], args := [d] }
  | _ => none }
def FnExactUnarmorWrongFalsely : Prop := fnExactUnarmorRow.holds Try.pinned (OpenSpec.ofChange fnExactUnarmorWrong)

/- THE SECOND FORM. 'bulk': how many values and letters a reading holds, each counted each time it is reached (what is shared counts as often as it is met; a slice's spare places count too). A statement '..UptoSaid' is the law's where the arguments, and the package variables that the reading takes, are together of bulk at most 1048576: NARROWER than '..Said'. Prove '..Said' where nothing that the law and all that it calls make is longer than what came in: it says more and counts as full. Else prove '..UptoSaid'. A law counts once. -/
mutual
def uptoBulk {H : Type} : DataW H → Nat
  | .lit (.string bytes) => bytes.length + 1
  | .lit _ => 1
  | .nil => 1
  | .ptr d => uptoBulk d + 1
  | .slice elems spare => uptoBulkAll elems + uptoBulkAll spare + 1
  | .agg parts => uptoBulkAll parts + 1
  | .iface _ d => uptoBulk d + 1
  | .map entries => uptoBulkEntries entries + 1
  | .held _ => 1
def uptoBulkAll {H : Type} : List (DataW H) → Nat
  | [] => 0
  | d :: r => uptoBulk d + uptoBulkAll r
def uptoBulkEntries {H : Type} : List (Lit × DataW H) → Nat
  | [] => 0
  | x :: r => uptoBulkEntry x + uptoBulkEntries r
def uptoBulkEntry {H : Type} : Lit × DataW H → Nat
  | (.string bytes, d) => bytes.length + uptoBulk d + 1
  | (_, d) => uptoBulk d + 1
 end
def uptoSmall : (H : Type) → List (DataW H) → Bool := fun _ ds => decide (uptoBulkAll ds ≤ 1048576)
def OpenSpec.upto (s : _root_.Go.ChangeSpec) : _root_.Go.OpenSpec := { _root_.Go.OpenSpec.ofChange s with cond := some uptoSmall }

/-- 'laws.FnExactJoin', WHERE WHAT IT READS IS OF BULK AT MOST 1048576: true; the input reads as it did. -/
def fnExactJoinUptoRow : OpenClaim := { program := "ytmnlgdmojbhfcaa", sum := "d52fb9b464f5a33b7a501dcf5f5d35e4b1c56253a8f0b16e8f79a8e11bac0947", func := "loop.example/g00036/laws.FnExactJoin", spec := "fnExactJoin", apart := false, narrowed := true }
def FnExactJoinUptoSaid : Prop := fnExactJoinUptoRow.holds Try.pinned (OpenSpec.upto fnExactJoinSpec)

/-- 'laws.FnExactGoodAtom', WHERE WHAT IT READS IS OF BULK AT MOST 1048576: true; the input reads as it did. -/
def fnExactGoodAtomUptoRow : OpenClaim := { program := "ytmnlgdmojbhfcaa", sum := "d52fb9b464f5a33b7a501dcf5f5d35e4b1c56253a8f0b16e8f79a8e11bac0947", func := "loop.example/g00036/laws.FnExactGoodAtom", spec := "fnExactGoodAtom", apart := false, narrowed := true }
def FnExactGoodAtomUptoSaid : Prop := fnExactGoodAtomUptoRow.holds Try.pinned (OpenSpec.upto fnExactGoodAtomSpec)

/-- 'laws.FnExactGoodDirName', WHERE WHAT IT READS IS OF BULK AT MOST 1048576: true; the input reads as it did. -/
def fnExactGoodDirNameUptoRow : OpenClaim := { program := "ytmnlgdmojbhfcaa", sum := "d52fb9b464f5a33b7a501dcf5f5d35e4b1c56253a8f0b16e8f79a8e11bac0947", func := "loop.example/g00036/laws.FnExactGoodDirName", spec := "fnExactGoodDirName", unfollowed := true, recurses := true, apart := false, narrowed := true }
def FnExactGoodDirNameUptoSaid : Prop := fnExactGoodDirNameUptoRow.holds Try.pinned (OpenSpec.upto fnExactGoodDirNameSpec)

/-- 'laws.FnExactAddrIn', WHERE WHAT IT READS IS OF BULK AT MOST 1048576: true; the input reads as it did. -/
def fnExactAddrInUptoRow : OpenClaim := { program := "ytmnlgdmojbhfcaa", sum := "d52fb9b464f5a33b7a501dcf5f5d35e4b1c56253a8f0b16e8f79a8e11bac0947", func := "loop.example/g00036/laws.FnExactAddrIn", spec := "fnExactAddrIn", apart := false, narrowed := true }
def FnExactAddrInUptoSaid : Prop := fnExactAddrInUptoRow.holds Try.pinned (OpenSpec.upto fnExactAddrInSpec)

/-- 'laws.FnExactVerify', WHERE WHAT IT READS IS OF BULK AT MOST 1048576: true; the input reads as it did. -/
def fnExactVerifyUptoRow : OpenClaim := { program := "ytmnlgdmojbhfcaa", sum := "d52fb9b464f5a33b7a501dcf5f5d35e4b1c56253a8f0b16e8f79a8e11bac0947", func := "loop.example/g00036/laws.FnExactVerify", spec := "fnExactVerify", unfollowed := true, recurses := true, apart := false, narrowed := true }
def FnExactVerifyUptoSaid : Prop := fnExactVerifyUptoRow.holds Try.pinned (OpenSpec.upto fnExactVerifySpec)

/-- 'laws.FnExactUnarmor', WHERE WHAT IT READS IS OF BULK AT MOST 1048576: true; the input reads as it did. -/
def fnExactUnarmorUptoRow : OpenClaim := { program := "ytmnlgdmojbhfcaa", sum := "d52fb9b464f5a33b7a501dcf5f5d35e4b1c56253a8f0b16e8f79a8e11bac0947", func := "loop.example/g00036/laws.FnExactUnarmor", spec := "fnExactUnarmor", inPlace := ["internal/bytealg.IndexByteString", "internal/abi.NoEscape"], apart := false, narrowed := true }
def FnExactUnarmorUptoSaid : Prop := fnExactUnarmorUptoRow.holds Try.pinned (OpenSpec.upto fnExactUnarmorSpec)

end Rows
end Go.Proofs.Ytmnlgdmojbhfcaa
