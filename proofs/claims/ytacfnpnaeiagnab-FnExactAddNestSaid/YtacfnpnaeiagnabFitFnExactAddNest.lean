-- Written for this claim by a program of this session (mklaw.py).
import Derived.Test.YtacfnpnaeiagnabQA
namespace Go.Proofs.Ytacfnpnaeiagnab.PA
open Go Go.Den Go.RowKit
def laws_FnExactAddNest.Pure : Prop := ∀ (a0 : (List T24)) (a1 : (List T68)) (a2 : T24), fitSh (.list S24) a0 → fitSh (.list S68) a1 → fitSh S24 a2 → ∃ k, laws_FnExactAddNest.f k a0 a1 a2 = some true
end Go.Proofs.Ytacfnpnaeiagnab.PA
