/- What is run behind the parts. -/
import Derived.Test.YtmppkccbjmeihaaGreatSegD
namespace Go.Proofs.Le
set_option autoImplicit true
set_option relaxedAutoImplicit true
set_option linter.unusedVariables false
set_option linter.unusedSimpArgs false
set_option linter.unusedSectionVars false
open Go.Abs Go.RowKit Go.Shelf
noncomputable def restR (k : Int) : RC := exC (compC Tryz.prog a3.info restC) (cx D0) 120 a3.info.keep 100000 (setA tD 7 (.int .u32 k)) SD
theorem tD_k : tD.get 7 = some (.sym .u32 ek) := by kernel_rfl
end Go.Proofs.Le
