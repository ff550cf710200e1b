-- Written for this claim by a program of this session (mklaw.py).
import Derived.Test.YtbkeooaepmiafaaQA
namespace Go.Proofs.Ytbkeooaepmiafaa.PA
open Go Go.Den Go.RowKit
def laws_FnExactTermHolds.Pure : Prop := ∀ (a0 : T24) (a1 : (List T74)) (a2 : T29), fitSh S24 a0 → fitSh (.list S74) a1 → fitSh S29 a2 → ∃ k, laws_FnExactTermHolds.f k a0 a1 a2 = some true
end Go.Proofs.Ytbkeooaepmiafaa.PA
