-- Written for this claim by a program of this session (mklaw.py).
import Derived.Test.YtbkeooaepmiafaaQB
namespace Go.Proofs.Ytbkeooaepmiafaa.PB
open Go Go.Den Go.RowKit
def laws_FnExactGoodDirSchema.Pure : Prop := ∀ (a0 : T61), fitSh S61 a0 → ∃ k, laws_FnExactGoodDirSchema.f k a0 = some true
end Go.Proofs.Ytbkeooaepmiafaa.PB
