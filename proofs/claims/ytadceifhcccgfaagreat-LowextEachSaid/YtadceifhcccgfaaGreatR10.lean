/- A run of the law: number 1, sign 0. -/
import Derived.Test.YtadceifhcccgfaaGreatConds
namespace Go.Proofs.Le
set_option autoImplicit true
set_option relaxedAutoImplicit true
set_option linter.unusedVariables false
set_option linter.unusedSimpArgs false
set_option linter.unusedSectionVars false
open Go.Abs Go.RowKit
theorem run10 : isR (restR D10 1) = true := by kernel_rfl
end Go.Proofs.Le
