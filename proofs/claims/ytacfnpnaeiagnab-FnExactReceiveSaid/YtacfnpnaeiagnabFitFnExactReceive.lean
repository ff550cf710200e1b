-- Written for this claim by a program of this session (mklaw.py).
import Derived.Test.YtacfnpnaeiagnabQV
namespace Go.Proofs.Ytacfnpnaeiagnab.PV
open Go Go.Den Go.RowKit
def laws_FnExactReceive.Pure : Prop := ∀ (a0 : (List T89)) (a1 : (List T89)), fitSh (.list S89) a0 → fitSh (.list S89) a1 → ∃ k, laws_FnExactReceive.f k a0 a1 = some true
end Go.Proofs.Ytacfnpnaeiagnab.PV
