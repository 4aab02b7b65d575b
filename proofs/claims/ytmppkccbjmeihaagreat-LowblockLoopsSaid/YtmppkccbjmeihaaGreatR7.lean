/- The run behind the parts, at 7. -/
import Derived.Test.YtmppkccbjmeihaaGreatRest
namespace Go.Proofs.Le
set_option autoImplicit true
set_option relaxedAutoImplicit true
set_option linter.unusedVariables false
set_option linter.unusedSimpArgs false
set_option linter.unusedSectionVars false
open Go.Abs Go.RowKit Go.Shelf
theorem run7 : isR (restR 7) = true := by kernel_rfl
end Go.Proofs.Le
