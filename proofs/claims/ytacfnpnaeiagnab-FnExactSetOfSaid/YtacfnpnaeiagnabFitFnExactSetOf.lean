-- Written for this claim by a program of this session (mklaw.py).
import Derived.Test.YtacfnpnaeiagnabQS
namespace Go.Proofs.Ytacfnpnaeiagnab.PS
open Go Go.Den Go.RowKit
def laws_FnExactSetOf.Pure : Prop := ∀ (a0 : (List T54)), fitSh (.list S54) a0 → ∃ k, laws_FnExactSetOf.f k a0 = some true
end Go.Proofs.Ytacfnpnaeiagnab.PS
