-- Written for this claim by a program of this session (mklaw.py).
import Derived.Test.YtacfnpnaeiagnabQY
namespace Go.Proofs.Ytacfnpnaeiagnab.PY
open Go Go.Den Go.RowKit
def laws_FnExactSync.Pure : Prop := ∀ (a0 : (List T89)) (a1 : (List T89)), fitSh (.list S89) a0 → fitSh (.list S89) a1 → ∃ k, laws_FnExactSync.f k a0 a1 = some true
end Go.Proofs.Ytacfnpnaeiagnab.PY
