-- Written for this claim by a program of this session (mklaw.py).
import Derived.Test.YtacfnpnaeiagnaaQD
namespace Go.Proofs.Ytacfnpnaeiagnaa.PD
open Go Go.Den Go.RowKit
def laws_FnExactDropNest.Pure : Prop := ∀ (a0 : (List T42)) (a1 : (List T54)) (a2 : T42), fitSh (.list S42) a0 → fitSh (.list S54) a1 → fitSh S42 a2 → ∃ k, laws_FnExactDropNest.f k a0 a1 a2 = some true
end Go.Proofs.Ytacfnpnaeiagnaa.PD
