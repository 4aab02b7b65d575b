/- The law's code: what stands ahead of the run, what is run. -/
import Derived.Test.YtadceifhcccgfaaGreatRun
namespace Go.Proofs.Le
set_option autoImplicit true
set_option relaxedAutoImplicit true
set_option linter.unusedVariables false
set_option linter.unusedSimpArgs false
set_option linter.unusedSectionVars false
open Go.Abs Go.RowKit Go.Shelf
noncomputable def code0 : Code := match Tryz.f3.body with | some (.seq a _) => a | _ => .skip
noncomputable def code1 : Code := match Tryz.f3.body with | some (.seq _ (.seq b _)) => b | _ => .skip
noncomputable def restC : Code := match Tryz.f3.body with | some (.seq _ (.seq _ c)) => c | _ => .skip
theorem body_eq : Tryz.f3.body = some (.seq code0 (.seq code1 restC)) := by kernel_rfl
theorem code0_ok : codeOK Tryz.prog a3.info code0 = true := by kernel_rfl
theorem code1_ok : codeOK Tryz.prog a3.info code1 = true := by kernel_rfl
theorem codeZ_ok : codeOK Tryz.prog a3.info restC = true := by kernel_rfl
noncomputable def t0 : Tr AVal := initFr a3.info.keep 119 0 [.sym .u64 (.var 0), .sym .i64 (.var 1)] .leaf
noncomputable def tOf (r : RC) : Tr AVal := @RC.rec (fun _ => Tr AVal) .leaf (fun t _ => t) (fun _ _ _ => .leaf) (fun _ _ => .leaf) r
noncomputable def tA : Tr AVal := tOf (exC (compC Tryz.prog a3.info code0) (cx []) 119 a3.info.keep 100000 t0 ⟨.leaf, 0⟩)
noncomputable def t1 : Tr AVal := tOf (exC (compC Tryz.prog a3.info code1) (cx []) 119 a3.info.keep 100000 tA ⟨.leaf, 0⟩)
theorem r0_eq : exC (compC Tryz.prog a3.info code0) (cx []) 119 a3.info.keep 100000 t0 ⟨.leaf, 0⟩ = .nor tA ⟨.leaf, 0⟩ := by kernel_rfl
theorem r1_eq : exC (compC Tryz.prog a3.info code1) (cx []) 119 a3.info.keep 100000 tA ⟨.leaf, 0⟩ = .nor t1 ⟨.leaf, 0⟩ := by kernel_rfl
noncomputable def ek : SE := .bin .rem .i64 .i64 (.bin .add .i64 .i64 (.bin .rem .i64 .i64 (.var 1) (.lit 5)) (.lit 5)) (.lit 5)
noncomputable def isR (r : RC) : Bool := @RC.rec (fun _ => Bool) false (fun _ _ => false) (fun _ _ _ => false) (fun t _ => match getA t 4 with | some (.bool b) => b | _ => false) r
noncomputable def restR (D : List (SB × Bool)) (k : Int) : RC := exC (compC Tryz.prog a3.info restC) (cx D) 119 a3.info.keep 100000 (setA t1 5 (.int .i64 k)) ⟨.leaf, 0⟩
theorem t1_k : t1.get 5 = some (.sym .i64 ek) := by kernel_rfl
end Go.Proofs.Le
