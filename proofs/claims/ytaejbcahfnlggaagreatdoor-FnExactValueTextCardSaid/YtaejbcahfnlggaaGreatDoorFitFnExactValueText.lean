-- Written for this claim by a program of this session (mklaw.py).
import Derived.Test.YtaejbcahfnlggaaGreatDoorQV
namespace Go.Proofs.YtaejbcahfnlggaaGreatDoor.PV
open Go Go.Den Go.RowKit
def laws_FnExactValueText.Pure : Prop := ∀ (a0 : T26), fitSh S26 a0 → ∃ k, laws_FnExactValueText.f k a0 = some true
end Go.Proofs.YtaejbcahfnlggaaGreatDoor.PV
