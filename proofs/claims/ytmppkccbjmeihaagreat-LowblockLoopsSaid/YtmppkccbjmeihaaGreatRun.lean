/- What is run. -/
import Derived.Test.YtmppkccbjmeihaaGreatTab
import Derived.Test.YtmppkccbjmeihaaGreatPop
namespace Go.Proofs.Le
set_option autoImplicit true
set_option relaxedAutoImplicit true
set_option linter.unusedVariables false
set_option linter.unusedSimpArgs false
set_option linter.unusedSectionVars false
open Go.Abs Go.RowKit Go.Shelf
noncomputable def TQ : FuncId → Option QFun := fun f => @Option.rec AFun (fun _ => Option QFun) none (fun A => some (compF Tryz.prog A)) (tab.get f)
theorem TQ_ok (f : FuncId) (q : QFun) (h : TQ f = some q) : ∃ A, q = compF Tryz.prog A ∧ FunOK Tryz.prog f A := by
  unfold TQ at h
  cases ht : tab.get f with
  | none => rw [ht] at h; cases h
  | some A => rw [ht] at h; cases h; exact ⟨A, rfl, tab_ok.get f A ht⟩
noncomputable def TK : FuncId → Option QFun := fun f => @Bool.rec (fun _ => Option QFun) (TQ f) (some (compF Tryz.prog a9)) (Nat.beq f 9)
theorem TK_ok (f : FuncId) (q : QFun) (h : TK f = some q) : ∃ A, q = compF Tryz.prog A ∧ FunOK Tryz.prog f A := by
  unfold TK at h
  cases hf : Nat.beq f 9 with
  | false => rw [hf] at h; exact TQ_ok f q h
  | true =>
    rw [hf] at h
    have := Nat.eq_of_beq_eq_true hf
    subst this
    cases h
    exact ⟨_, rfl, ok9⟩
noncomputable def anyH (D : List (SB × Bool)) : Handler := fun f xs S => (callQ TQ (fun _ _ _ => none) Tryz.prog (told D) 100000 6 f xs S).opt
noncomputable def popB (D : List (SB × Bool)) : Handler := popH (anyH D) 187 142 13
noncomputable def runK : QHandler := callQ TK (popB []) Tryz.prog (told []) 100000 60
noncomputable def isT (r : RV) : Bool := @RV.rec (fun _ => Bool) false (fun v _ => match v with | .bool b => b | _ => false) r
theorem isT_ok {r : RV} (h : isT r = true) : ∃ S, r = .ok (.bool true) S := by
  cases r with
  | no => cases h
  | ok v S => cases v <;> first | (cases h; done) | (rename_i b; cases b <;> first | (cases h; done) | exact ⟨S, rfl⟩)
noncomputable def base (D : List (SB × Bool)) : Handler := constH 9 (.bool true) (popB D)
noncomputable def cx (D : List (SB × Bool)) : Cx := ⟨callQ TQ (base D) Tryz.prog (told D) 100000 60, Tryz.prog, told D⟩
theorem mix : Tryz.prog.follows .mixedOrders = true := by kernel_rfl
section
variable {ρ : Nat → Int} {D : List (SB × Bool)}
theorem popB_ok (hD : ∀ q, q ∈ D → q.1.den ρ = q.2) : HandlerOK Tryz.prog ρ (popB D) := Pop.ok (callQ_sound mix none_sound (told_sound hD) TQ_ok 100000 6)
end
end Go.Proofs.Le
