-- Written for this claim by a program of this session (mklaw.py).
import Derived.Test.YtaejbcahfnlggaaGreatDoorQX
namespace Go.Proofs.YtaejbcahfnlggaaGreatDoor.PX
open Go Go.Den Go.RowKit
def laws_FnExactAtomText.Pure : Prop := ∀ (a0 : T22), fitSh S22 a0 → ∃ k, laws_FnExactAtomText.f k a0 = some true
end Go.Proofs.YtaejbcahfnlggaaGreatDoor.PX
