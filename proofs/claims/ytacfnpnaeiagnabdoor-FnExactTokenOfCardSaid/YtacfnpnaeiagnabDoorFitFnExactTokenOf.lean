-- Written for this claim by a program of this session (mklaw.py).
import Derived.Test.YtacfnpnaeiagnabDoorQT
namespace Go.Proofs.YtacfnpnaeiagnabDoor.PT
open Go Go.Den Go.RowKit
def laws_FnExactTokenOf.Pure : Prop := ∀ (a0 : Int) (a1 : Int), fitSh (.int .i64) a0 → fitSh (.int .i64) a1 → ∃ k, laws_FnExactTokenOf.f k a0 a1 = some true
end Go.Proofs.YtacfnpnaeiagnabDoor.PT
