-- Written for this claim by a program of this session (mklaw.py).
import Derived.Test.YtacfnpnaeiagnaaQR
namespace Go.Proofs.Ytacfnpnaeiagnaa.PR
open Go Go.Den Go.RowKit
def laws_FnExactGroupsOf.Pure : Prop := ∀ (a0 : (List T42)) (a1 : ByteArray), fitSh (.list S42) a0 → fitSh .str a1 → ∃ k, laws_FnExactGroupsOf.f k a0 a1 = some true
end Go.Proofs.Ytacfnpnaeiagnaa.PR
