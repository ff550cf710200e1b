-- Written for this claim by a program of this session (mklaw.py).
import Derived.Test.YtacfnpnaeiagnaaQW
namespace Go.Proofs.Ytacfnpnaeiagnaa.PW
open Go Go.Den Go.RowKit
def laws_FnExactWayOf.Pure : Prop := ∀ (a0 : (List T42)) (a1 : ByteArray) (a2 : ByteArray), fitSh (.list S42) a0 → fitSh .str a1 → fitSh .str a2 → ∃ k, laws_FnExactWayOf.f k a0 a1 a2 = some true
end Go.Proofs.Ytacfnpnaeiagnaa.PW
