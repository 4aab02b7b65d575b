/- The run behind the parts, at 3, 4. -/
import Derived.Test.YtmppkccbjmeihaaGreatRest
namespace Go.Proofs.Le
set_option autoImplicit true
set_option relaxedAutoImplicit true
set_option linter.unusedVariables false
set_option linter.unusedSimpArgs false
set_option linter.unusedSectionVars false
open Go.Abs Go.RowKit Go.Shelf
theorem run3 : isR (restR 3) = true := by kernel_rfl
theorem run4 : isR (restR 4) = true := by kernel_rfl
end Go.Proofs.Le
