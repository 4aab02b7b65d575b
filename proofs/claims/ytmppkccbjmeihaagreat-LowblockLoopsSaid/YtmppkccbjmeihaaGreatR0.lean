/- The run behind the parts, at 0, 1, 2. -/
import Derived.Test.YtmppkccbjmeihaaGreatRest
namespace Go.Proofs.Le
set_option autoImplicit true
set_option relaxedAutoImplicit true
set_option linter.unusedVariables false
set_option linter.unusedSimpArgs false
set_option linter.unusedSectionVars false
open Go.Abs Go.RowKit Go.Shelf
theorem run0 : isR (restR 0) = true := by kernel_rfl
theorem run1 : isR (restR 1) = true := by kernel_rfl
theorem run2 : isR (restR 2) = true := by kernel_rfl
end Go.Proofs.Le
