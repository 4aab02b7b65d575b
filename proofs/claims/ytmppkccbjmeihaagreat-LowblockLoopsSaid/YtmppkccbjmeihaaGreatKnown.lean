/- The closed run that ends the law. -/
import Derived.Test.YtmppkccbjmeihaaGreatRun
namespace Go.Proofs.Le
set_option autoImplicit true
set_option relaxedAutoImplicit true
set_option linter.unusedVariables false
set_option linter.unusedSimpArgs false
set_option linter.unusedSectionVars false
open Go.Abs Go.RowKit Go.Shelf
theorem known_run : isT (runK 9 [] ⟨.leaf, 0⟩) = true := by kernel_rfl
theorem base_ok {ρ : Nat → Int} {D : List (SB × Bool)} (hD : ∀ q, q ∈ D → q.1.den ρ = q.2) : HandlerOK Tryz.prog ρ (base D) := by
  obtain ⟨S, h⟩ := isT_ok known_run
  have hK : HandlerOK Tryz.prog ρ (fun f xs S => (runK f xs S).opt) := callQ_sound mix (popB_ok (D := []) (fun q hq => by cases hq)) (told_sound (fun q hq => by cases hq)) TK_ok 100000 60
  refine constH_ok hK (popB_ok hD) (v := .bool true) (S' := S) (RV.opt_some.2 h) ?_
  intro μ x hx μ'
  cases hx
  exact .bool true
end Go.Proofs.Le
