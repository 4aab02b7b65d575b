/- The law's code, statement by statement. -/
import Derived.Test.YtmppkccbjmeihaaGreatRun
namespace Go.Proofs.Le
set_option autoImplicit true
set_option relaxedAutoImplicit true
set_option linter.unusedVariables false
set_option linter.unusedSimpArgs false
set_option linter.unusedSectionVars false
open Go.Abs Go.RowKit Go.Shelf
noncomputable def hd (c : Code) : Code := match c with | .seq a _ => a | c => c
noncomputable def tl (c : Code) : Code := match c with | .seq _ b => b | c => c
noncomputable def b0 : Code := match Tryz.f3.body with | some c => c | none => .skip
noncomputable def b1 : Code := tl b0
noncomputable def b2 : Code := tl b1
noncomputable def b3 : Code := tl b2
noncomputable def b4 : Code := tl b3
noncomputable def b5 : Code := tl b4
noncomputable def b6 : Code := tl b5
noncomputable def b7 : Code := tl b6
noncomputable def b8 : Code := tl b7
noncomputable def b9 : Code := tl b8
noncomputable def b10 : Code := tl b9
noncomputable def b11 : Code := tl b10
noncomputable def restC : Code := b11
noncomputable def lA : List Code := [hd b0, hd b1]
noncomputable def lB : List Code := [hd b2, hd b3, hd b4, hd b5, hd b6]
noncomputable def lC : List Code := [hd b7]
noncomputable def lD : List Code := [hd b8, hd b9, hd b10]
theorem body_eq : Tryz.f3.body = some (seqs lA (seqs lB (seqs lC (seqs lD restC)))) := by kernel_rfl
theorem lA_ok : ∀ x, x ∈ lA → codeOK Tryz.prog a3.info x = true := by
  intro x hx
  simp only [lA, List.mem_cons, List.not_mem_nil, or_false] at hx
  rcases hx with rfl | rfl <;> kernel_rfl
theorem lB_ok : ∀ x, x ∈ lB → codeOK Tryz.prog a3.info x = true := by
  intro x hx
  simp only [lB, List.mem_cons, List.not_mem_nil, or_false] at hx
  rcases hx with rfl | rfl | rfl | rfl | rfl <;> kernel_rfl
theorem lC_ok : ∀ x, x ∈ lC → codeOK Tryz.prog a3.info x = true := by
  intro x hx
  simp only [lC, List.mem_cons, List.not_mem_nil, or_false] at hx
  subst hx
  kernel_rfl
theorem lD_ok : ∀ x, x ∈ lD → codeOK Tryz.prog a3.info x = true := by
  intro x hx
  simp only [lD, List.mem_cons, List.not_mem_nil, or_false] at hx
  rcases hx with rfl | rfl | rfl <;> kernel_rfl
theorem codeZ_ok : codeOK Tryz.prog a3.info restC = true := by kernel_rfl
noncomputable def t0 : Tr AVal := initFr a3.info.keep 120 0 [.sym .u64 (.var 0), .sym .u64 (.var 1), .sym .u32 (.var 2)] .leaf
noncomputable def ek : SE := .bin .rem .u32 .u32 (.var 2) (.lit 12)
noncomputable def seg (l : List Code) (t : Tr AVal) (S : St) : RC := exSeq (l.map (compC Tryz.prog a3.info)) (cx []) 120 a3.info.keep 100000 t S
noncomputable def D0 : List (SB × Bool) := [(.cmp .eql (.var 0) (.var 0), true), (.cmp .eql (.var 1) (.var 1), true)]
noncomputable def isR (r : RC) : Bool := @RC.rec (fun _ => Bool) false (fun _ _ => false) (fun _ _ _ => false) (fun t _ => match getA t 6 with | some (.bool b) => b | _ => false) r
end Go.Proofs.Le
