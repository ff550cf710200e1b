/- The program's Constants are the reference's.
Conditions: none but the row's own. -/
import Derived.Test.YticgmgbbdicgdaaPFnExactConstantsx1
namespace Go.Proofs.Yticgmgbbdicgdaa.Pure
open Go.RowKit Go.Proofs.Yticgmgbbdicgdaa.PFnExactConstants Go.Proofs.YticgmgbbdicgdaaW.PrintWords Go.Proofs.YticgmgbbdicgdaaW.PrintLast
set_option linter.unusedVariables false
set_option linter.unusedSimpArgs false

theorem FnExactConstants : laws_FnExactConstants.Pure := by
  first | exact rfl | (unfold laws_FnExactConstants.Pure laws_FnExactConstants.f; first | rfl | simp)

end Go.Proofs.Yticgmgbbdicgdaa.Pure
