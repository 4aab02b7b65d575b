/- What is told of the number, a list for each of the runs. -/
import Derived.Test.YtadceifhcccgfaaGreatPre
namespace Go.Proofs.Le
set_option autoImplicit true
set_option relaxedAutoImplicit true
set_option linter.unusedVariables false
set_option linter.unusedSimpArgs false
set_option linter.unusedSectionVars false
open Go.Abs Go.RowKit
noncomputable def D00 : List (SB × Bool) := [
  ((.cmp .leq (.bin .and .u64 .u64 (.var 0) (.lit 4294967295)) (.lit 4294967295)), true),
  ((.cmp .geq (.bin .and .u64 .u64 (.var 0) (.lit 4294967295)) (.lit 4294967296)), false),
  ((.cmp .eql (.bin .shr .u64 .u64 (.bin .shl .u64 .u64 (.bin .and .u64 .u64 (.var 0) (.lit 4294967295)) (.lit 56)) (.lit 63)) (.lit 1)), false),
  ((.cmp .eql (.bin .shr .u64 .u64 (.bin .shl .u64 .u64 (.bin .and .u64 .u64 (.bin .and .u64 .u64 (.bin .shl .u64 .u64 (.bin .and .u64 .u64 (.bin .and .u64 .u64 (.var 0) (.lit 4294967295)) (.lit 4294967295)) (.lit 24)) (.lit 4294967295)) (.lit 4294967295)) (.lit 32)) (.lit 63)) (.lit 1)), false),
  ((.cmp .eql (.bin .and .u64 .u64 (.conv .u64 (.bin .shr .i64 .u64 (.conv .i64 (.bin .shr .u64 .u64 (.bin .shl .u64 .u64 (.bin .and .u64 .u64 (.bin .and .u64 .u64 (.bin .shl .u64 .u64 (.bin .and .u64 .u64 (.bin .and .u64 .u64 (.var 0) (.lit 4294967295)) (.lit 4294967295)) (.lit 24)) (.lit 4294967295)) (.lit 4294967295)) (.lit 32)) (.lit 32))) (.lit 24))) (.lit 4294967295)) (.conv .u64 (.conv .u32 (.conv .i32 (.conv .i8 (.var 0)))))), true)]
noncomputable def D01 : List (SB × Bool) := [
  ((.cmp .leq (.bin .and .u64 .u64 (.var 0) (.lit 4294967295)) (.lit 4294967295)), true),
  ((.cmp .geq (.bin .and .u64 .u64 (.var 0) (.lit 4294967295)) (.lit 4294967296)), false),
  ((.cmp .eql (.bin .shr .u64 .u64 (.bin .shl .u64 .u64 (.bin .and .u64 .u64 (.var 0) (.lit 4294967295)) (.lit 56)) (.lit 63)) (.lit 1)), true),
  ((.cmp .eql (.bin .shr .u64 .u64 (.bin .shl .u64 .u64 (.bin .and .u64 .u64 (.bin .and .u64 .u64 (.bin .shl .u64 .u64 (.bin .and .u64 .u64 (.bin .and .u64 .u64 (.var 0) (.lit 4294967295)) (.lit 4294967295)) (.lit 24)) (.lit 4294967295)) (.lit 4294967295)) (.lit 32)) (.lit 63)) (.lit 1)), true),
  ((.cmp .eql (.bin .and .u64 .u64 (.conv .u64 (.bin .shr .i64 .u64 (.bin .sub .i64 .i64 (.conv .i64 (.bin .shr .u64 .u64 (.bin .shl .u64 .u64 (.bin .and .u64 .u64 (.bin .and .u64 .u64 (.bin .shl .u64 .u64 (.bin .and .u64 .u64 (.bin .and .u64 .u64 (.var 0) (.lit 4294967295)) (.lit 4294967295)) (.lit 24)) (.lit 4294967295)) (.lit 4294967295)) (.lit 32)) (.lit 32))) (.lit 4294967296)) (.lit 24))) (.lit 4294967295)) (.conv .u64 (.conv .u32 (.conv .i32 (.conv .i8 (.var 0)))))), true)]
noncomputable def D10 : List (SB × Bool) := [
  ((.cmp .leq (.bin .and .u64 .u64 (.var 0) (.lit 4294967295)) (.lit 4294967295)), true),
  ((.cmp .geq (.bin .and .u64 .u64 (.var 0) (.lit 4294967295)) (.lit 4294967296)), false),
  ((.cmp .eql (.bin .shr .u64 .u64 (.bin .shl .u64 .u64 (.bin .and .u64 .u64 (.var 0) (.lit 4294967295)) (.lit 48)) (.lit 63)) (.lit 1)), false),
  ((.cmp .eql (.bin .shr .u64 .u64 (.bin .shl .u64 .u64 (.bin .and .u64 .u64 (.bin .and .u64 .u64 (.bin .shl .u64 .u64 (.bin .and .u64 .u64 (.bin .and .u64 .u64 (.var 0) (.lit 4294967295)) (.lit 4294967295)) (.lit 16)) (.lit 4294967295)) (.lit 4294967295)) (.lit 32)) (.lit 63)) (.lit 1)), false),
  ((.cmp .eql (.bin .and .u64 .u64 (.conv .u64 (.bin .shr .i64 .u64 (.conv .i64 (.bin .shr .u64 .u64 (.bin .shl .u64 .u64 (.bin .and .u64 .u64 (.bin .and .u64 .u64 (.bin .shl .u64 .u64 (.bin .and .u64 .u64 (.bin .and .u64 .u64 (.var 0) (.lit 4294967295)) (.lit 4294967295)) (.lit 16)) (.lit 4294967295)) (.lit 4294967295)) (.lit 32)) (.lit 32))) (.lit 16))) (.lit 4294967295)) (.conv .u64 (.conv .u32 (.conv .i32 (.conv .i16 (.var 0)))))), true)]
noncomputable def D11 : List (SB × Bool) := [
  ((.cmp .leq (.bin .and .u64 .u64 (.var 0) (.lit 4294967295)) (.lit 4294967295)), true),
  ((.cmp .geq (.bin .and .u64 .u64 (.var 0) (.lit 4294967295)) (.lit 4294967296)), false),
  ((.cmp .eql (.bin .shr .u64 .u64 (.bin .shl .u64 .u64 (.bin .and .u64 .u64 (.var 0) (.lit 4294967295)) (.lit 48)) (.lit 63)) (.lit 1)), true),
  ((.cmp .eql (.bin .shr .u64 .u64 (.bin .shl .u64 .u64 (.bin .and .u64 .u64 (.bin .and .u64 .u64 (.bin .shl .u64 .u64 (.bin .and .u64 .u64 (.bin .and .u64 .u64 (.var 0) (.lit 4294967295)) (.lit 4294967295)) (.lit 16)) (.lit 4294967295)) (.lit 4294967295)) (.lit 32)) (.lit 63)) (.lit 1)), true),
  ((.cmp .eql (.bin .and .u64 .u64 (.conv .u64 (.bin .shr .i64 .u64 (.bin .sub .i64 .i64 (.conv .i64 (.bin .shr .u64 .u64 (.bin .shl .u64 .u64 (.bin .and .u64 .u64 (.bin .and .u64 .u64 (.bin .shl .u64 .u64 (.bin .and .u64 .u64 (.bin .and .u64 .u64 (.var 0) (.lit 4294967295)) (.lit 4294967295)) (.lit 16)) (.lit 4294967295)) (.lit 4294967295)) (.lit 32)) (.lit 32))) (.lit 4294967296)) (.lit 16))) (.lit 4294967295)) (.conv .u64 (.conv .u32 (.conv .i32 (.conv .i16 (.var 0)))))), true)]
noncomputable def D20 : List (SB × Bool) := [
  ((.cmp .eql (.bin .shr .u64 .u64 (.bin .shl .u64 .u64 (.var 0) (.lit 56)) (.lit 63)) (.lit 1)), false),
  ((.cmp .eql (.conv .u64 (.bin .shr .i64 .u64 (.conv .i64 (.bin .shr .u64 .u64 (.bin .shl .u64 .u64 (.bin .shl .u64 .u64 (.var 0) (.lit 56)) (.lit 0)) (.lit 0))) (.lit 56))) (.conv .u64 (.conv .i64 (.conv .i8 (.var 0))))), true)]
noncomputable def D21 : List (SB × Bool) := [
  ((.cmp .eql (.bin .shr .u64 .u64 (.bin .shl .u64 .u64 (.var 0) (.lit 56)) (.lit 63)) (.lit 1)), true),
  ((.cmp .eql (.conv .u64 (.bin .shr .i64 .u64 (.conv .i64 (.bin .shr .u64 .u64 (.bin .shl .u64 .u64 (.bin .shl .u64 .u64 (.var 0) (.lit 56)) (.lit 0)) (.lit 0))) (.lit 56))) (.conv .u64 (.conv .i64 (.conv .i8 (.var 0))))), true)]
noncomputable def D30 : List (SB × Bool) := [
  ((.cmp .eql (.bin .shr .u64 .u64 (.bin .shl .u64 .u64 (.var 0) (.lit 48)) (.lit 63)) (.lit 1)), false),
  ((.cmp .eql (.conv .u64 (.bin .shr .i64 .u64 (.conv .i64 (.bin .shr .u64 .u64 (.bin .shl .u64 .u64 (.bin .shl .u64 .u64 (.var 0) (.lit 48)) (.lit 0)) (.lit 0))) (.lit 48))) (.conv .u64 (.conv .i64 (.conv .i16 (.var 0))))), true)]
noncomputable def D31 : List (SB × Bool) := [
  ((.cmp .eql (.bin .shr .u64 .u64 (.bin .shl .u64 .u64 (.var 0) (.lit 48)) (.lit 63)) (.lit 1)), true),
  ((.cmp .eql (.conv .u64 (.bin .shr .i64 .u64 (.conv .i64 (.bin .shr .u64 .u64 (.bin .shl .u64 .u64 (.bin .shl .u64 .u64 (.var 0) (.lit 48)) (.lit 0)) (.lit 0))) (.lit 48))) (.conv .u64 (.conv .i64 (.conv .i16 (.var 0))))), true)]
noncomputable def D40 : List (SB × Bool) := [
  ((.cmp .eql (.bin .shr .u64 .u64 (.bin .shl .u64 .u64 (.var 0) (.lit 32)) (.lit 63)) (.lit 1)), false),
  ((.cmp .eql (.conv .u64 (.bin .shr .i64 .u64 (.conv .i64 (.bin .shr .u64 .u64 (.bin .shl .u64 .u64 (.bin .shl .u64 .u64 (.var 0) (.lit 32)) (.lit 0)) (.lit 0))) (.lit 32))) (.conv .u64 (.conv .i64 (.conv .i32 (.var 0))))), true)]
noncomputable def D41 : List (SB × Bool) := [
  ((.cmp .eql (.bin .shr .u64 .u64 (.bin .shl .u64 .u64 (.var 0) (.lit 32)) (.lit 63)) (.lit 1)), true),
  ((.cmp .eql (.conv .u64 (.bin .shr .i64 .u64 (.conv .i64 (.bin .shr .u64 .u64 (.bin .shl .u64 .u64 (.bin .shl .u64 .u64 (.var 0) (.lit 32)) (.lit 0)) (.lit 0))) (.lit 32))) (.conv .u64 (.conv .i64 (.conv .i32 (.var 0))))), true)]
end Go.Proofs.Le
