/- A run of the law: number 2, sign 0. -/
import Derived.Test.YtadceifhcccgfaaGreatConds
namespace Go.Proofs.Le
set_option autoImplicit true
set_option relaxedAutoImplicit true
set_option linter.unusedVariables false
set_option linter.unusedSimpArgs false
set_option linter.unusedSectionVars false
open Go.Abs Go.RowKit
theorem run20 : isR (restR D20 2) = true := by kernel_rfl
end Go.Proofs.Le
