-- Written for this claim by a program of this session (mklaw.py).
import Derived.Test.YtaejbcahfnlggaaDoorQT
namespace Go.Proofs.YtaejbcahfnlggaaDoor.PT
open Go Go.Den Go.RowKit
def laws_FnExactReadToken.Pure : Prop := ∀ (a0 : Int) (a1 : ByteArray), fitSh (.int .i64) a0 → fitSh .str a1 → ∃ k, laws_FnExactReadToken.f k a0 a1 = some true
end Go.Proofs.YtaejbcahfnlggaaDoor.PT
