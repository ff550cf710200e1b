-- Written for this claim by a program of this session (mklaw.py).
import Derived.Test.YtacfnpnaeiagnaaQR
namespace Go.Proofs.Ytacfnpnaeiagnaa.PR
open Go Go.Den Go.RowKit
def laws_FnExactLoops.Pure : Prop := ∀ (a0 : (List T42)), fitSh (.list S42) a0 → ∃ k, laws_FnExactLoops.f k a0 = some true
end Go.Proofs.Ytacfnpnaeiagnaa.PR
