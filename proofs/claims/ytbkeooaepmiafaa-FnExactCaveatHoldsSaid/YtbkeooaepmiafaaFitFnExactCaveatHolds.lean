-- Written for this claim by a program of this session (mklaw.py).
import Derived.Test.YtbkeooaepmiafaaQA
namespace Go.Proofs.Ytbkeooaepmiafaa.PA
open Go Go.Den Go.RowKit
def laws_FnExactCaveatHolds.Pure : Prop := ∀ (a0 : T49) (a1 : T29), fitSh S49 a0 → fitSh S29 a1 → ∃ k, laws_FnExactCaveatHolds.f k a0 a1 = some true
end Go.Proofs.Ytbkeooaepmiafaa.PA
