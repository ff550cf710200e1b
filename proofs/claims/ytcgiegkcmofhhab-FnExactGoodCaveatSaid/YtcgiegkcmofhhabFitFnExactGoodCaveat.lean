-- Written for this claim by a program of this session (mklaw.py).
import Derived.Test.YtcgiegkcmofhhabQFnExactGoodCaveat
namespace Go.Proofs.Ytcgiegkcmofhhab.PFnExactGoodCaveat
open Go Go.Den Go.RowKit
def laws_FnExactGoodCaveat.Pure : Prop := ∀ (a0 : T34), fitSh S34 a0 → ∃ k, laws_FnExactGoodCaveat.f k a0 = some true
end Go.Proofs.Ytcgiegkcmofhhab.PFnExactGoodCaveat
