-- Written for this claim by a program of this session (mklaw.py).
import Derived.Test.YtaejbcahfnlggaaGreatDoorQU
namespace Go.Proofs.YtaejbcahfnlggaaGreatDoor.PU
open Go Go.Den Go.RowKit
def laws_FnExactTupleText.Pure : Prop := ∀ (a0 : T28), fitSh S28 a0 → ∃ k, laws_FnExactTupleText.f k a0 = some true
end Go.Proofs.YtaejbcahfnlggaaGreatDoor.PU
