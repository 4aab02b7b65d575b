/- The run behind the parts, at 9. -/
import Derived.Test.YtmppkccbjmeihaaGreatRest
namespace Go.Proofs.Le
set_option autoImplicit true
set_option relaxedAutoImplicit true
set_option linter.unusedVariables false
set_option linter.unusedSimpArgs false
set_option linter.unusedSectionVars false
open Go.Abs Go.RowKit Go.Shelf
theorem run9 : isR (restR 9) = true := by kernel_rfl
end Go.Proofs.Le
