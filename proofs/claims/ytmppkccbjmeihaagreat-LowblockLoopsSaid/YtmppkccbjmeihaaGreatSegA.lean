/- A part of the run, what is kept of its memory. -/
import Derived.Test.YtmppkccbjmeihaaGreatPre
namespace Go.Proofs.Le
set_option autoImplicit true
set_option relaxedAutoImplicit true
set_option linter.unusedVariables false
set_option linter.unusedSimpArgs false
set_option linter.unusedSectionVars false
open Go.Abs Go.RowKit Go.Shelf
noncomputable def tA : Tr AVal := (.node (.node (.node (.node .leaf (some (.sym .u32 (.bin .rem .u32 .u32 (.var 2) (.lit (.ofNat 12))))) .leaf) none .leaf) (some (.sym .u64 (.var 1))) .leaf) (some (.sym .u64 (.var 0))) (.node .leaf (some (.sym .u32 (.var 2))) (.node .leaf (some (.bool false)) .leaf)))

noncomputable def SA : St := ⟨.leaf, 0⟩
noncomputable def iA : List Nat := []
theorem segA_eq : segR iA (seg lA t0 ⟨.leaf, 0⟩) = some (tA, SA) := by kernel_rfl
end Go.Proofs.Le
