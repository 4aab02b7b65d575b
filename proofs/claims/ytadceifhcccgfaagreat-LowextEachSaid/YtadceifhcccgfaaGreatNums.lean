/- What is told of the number holds. -/
import Derived.Test.YtadceifhcccgfaaGreatConds
namespace Go.Proofs.Le
set_option autoImplicit true
set_option relaxedAutoImplicit true
set_option linter.unusedVariables false
set_option linter.unusedSimpArgs false
set_option linter.unusedSectionVars false
open Go.Abs

theorem w_u64 (n : Int) : IntKind.wrap .u64 n = n % 18446744073709551616 := by
  simp [IntKind.wrap, IntKind.signed, IntKind.bits]
theorem w_u32 (n : Int) : IntKind.wrap .u32 n = n % 4294967296 := by
  simp [IntKind.wrap, IntKind.signed, IntKind.bits]
theorem w_i64 (n : Int) : IntKind.wrap .i64 n = if 9223372036854775808 ≤ n % 18446744073709551616 then n % 18446744073709551616 - 18446744073709551616 else n % 18446744073709551616 := by
  simp [IntKind.wrap, IntKind.signed, IntKind.bits]
theorem w_i32 (n : Int) : IntKind.wrap .i32 n = if 2147483648 ≤ n % 4294967296 then n % 4294967296 - 4294967296 else n % 4294967296 := by
  simp [IntKind.wrap, IntKind.signed, IntKind.bits]
theorem w_i16 (n : Int) : IntKind.wrap .i16 n = if 32768 ≤ n % 65536 then n % 65536 - 65536 else n % 65536 := by
  simp [IntKind.wrap, IntKind.signed, IntKind.bits]
theorem w_i8 (n : Int) : IntKind.wrap .i8 n = if 128 ≤ n % 256 then n % 256 - 256 else n % 256 := by
  simp [IntKind.wrap, IntKind.signed, IntKind.bits]
theorem b_and (x : Int) : intBin .and .u64 x 4294967295 = x % 4294967296 := by
  have e : (BitVec.ofInt 64 x &&& BitVec.ofInt 64 4294967295).toNat = (x % 18446744073709551616).toNat % 4294967296 := by
    rw [BitVec.toNat_and, BitVec.toNat_ofInt, BitVec.toNat_ofInt]
    exact Nat.and_two_pow_sub_one_eq_mod _ 32
  show IntKind.wrap .u64 ((BitVec.ofInt 64 x &&& BitVec.ofInt 64 4294967295).toNat : Int) = _
  rw [e, w_u64]
  omega
theorem b_shl (x : Int) (n : Nat) (h : n ≤ 64) : intBin .shl .u64 x (n : Int) = (x * 2 ^ n) % 18446744073709551616 := by
  show IntKind.wrap .u64 (x * 2 ^ (min (n : Int).toNat 64)) = _
  rw [w_u64, Int.toNat_natCast, Nat.min_eq_left h]
theorem b_shr (k : IntKind) (hk : k.bits = 64) (x : Int) (n : Nat) (h : n ≤ 64) : intBin .shr k x (n : Int) = x / 2 ^ n := by
  show x.fdiv (2 ^ (min (n : Int).toNat k.bits)) = _
  rw [hk, Int.toNat_natCast, Nat.min_eq_left h]
  exact Int.fdiv_eq_ediv_of_nonneg x (Int.le_of_lt (Int.pow_pos (by omega)))
theorem b_sub (x y : Int) : intBin .sub .i64 x y = IntKind.wrap .i64 (x - y) := rfl
theorem c_eq (x y : Int) : intCmpB .eql x y = decide (x = y) := by show (x == y) = _; rw [Bool.eq_iff_iff]; simp
theorem c_le (x y : Int) : intCmpB .leq x y = decide (x ≤ y) := rfl
theorem c_ge (x y : Int) : intCmpB .geq x y = decide (x ≥ y) := rfl
theorem shl56 (x : Int) : intBin .shl .u64 x 56 = (x * 72057594037927936) % 18446744073709551616 := b_shl x 56 (by omega)
theorem shl48 (x : Int) : intBin .shl .u64 x 48 = (x * 281474976710656) % 18446744073709551616 := b_shl x 48 (by omega)
theorem shl32 (x : Int) : intBin .shl .u64 x 32 = (x * 4294967296) % 18446744073709551616 := b_shl x 32 (by omega)
theorem shl24 (x : Int) : intBin .shl .u64 x 24 = (x * 16777216) % 18446744073709551616 := b_shl x 24 (by omega)
theorem shl16 (x : Int) : intBin .shl .u64 x 16 = (x * 65536) % 18446744073709551616 := b_shl x 16 (by omega)
theorem shl0 (x : Int) : intBin .shl .u64 x 0 = x % 18446744073709551616 := by rw [show intBin .shl .u64 x 0 = _ from b_shl x 0 (by omega)]; omega
theorem shr63 (x : Int) : intBin .shr .u64 x 63 = x / 9223372036854775808 := b_shr .u64 rfl x 63 (by omega)
theorem shr32 (x : Int) : intBin .shr .u64 x 32 = x / 4294967296 := b_shr .u64 rfl x 32 (by omega)
theorem shr0 (x : Int) : intBin .shr .u64 x 0 = x := by rw [show intBin .shr .u64 x 0 = _ from b_shr .u64 rfl x 0 (by omega)]; omega
theorem sar56 (x : Int) : intBin .shr .i64 x 56 = x / 72057594037927936 := b_shr .i64 rfl x 56 (by omega)
theorem sar48 (x : Int) : intBin .shr .i64 x 48 = x / 281474976710656 := b_shr .i64 rfl x 48 (by omega)
theorem sar32 (x : Int) : intBin .shr .i64 x 32 = x / 4294967296 := b_shr .i64 rfl x 32 (by omega)
theorem sar24 (x : Int) : intBin .shr .i64 x 24 = x / 16777216 := b_shr .i64 rfl x 24 (by omega)
theorem sar16 (x : Int) : intBin .shr .i64 x 16 = x / 65536 := b_shr .i64 rfl x 16 (by omega)

noncomputable def g2 : SB := .cmp .eql (.bin .shr .u64 .u64 (.bin .shl .u64 .u64 (.var 0) (.lit 56)) (.lit 63)) (.lit 1)
noncomputable def g3 : SB := .cmp .eql (.bin .shr .u64 .u64 (.bin .shl .u64 .u64 (.var 0) (.lit 48)) (.lit 63)) (.lit 1)
noncomputable def g4 : SB := .cmp .eql (.bin .shr .u64 .u64 (.bin .shl .u64 .u64 (.var 0) (.lit 32)) (.lit 63)) (.lit 1)
noncomputable def g0 : SB := .cmp .eql (.bin .shr .u64 .u64 (.bin .shl .u64 .u64 (.bin .and .u64 .u64 (.var 0) (.lit 4294967295)) (.lit 56)) (.lit 63)) (.lit 1)
noncomputable def g1 : SB := .cmp .eql (.bin .shr .u64 .u64 (.bin .shl .u64 .u64 (.bin .and .u64 .u64 (.var 0) (.lit 4294967295)) (.lit 48)) (.lit 63)) (.lit 1)
section
variable {ρ : Nat → Int} (h0 : 0 ≤ ρ 0) (h1 : ρ 0 < 18446744073709551616)
include h0 h1
theorem n20 (h : g2.den ρ = false) : ∀ q, q ∈ D20 → q.1.den ρ = q.2 := by
  intro q hq
  simp only [D20, List.mem_cons, List.not_mem_nil, or_false] at hq
  rcases hq with rfl | rfl
  · exact h
  · simp only [g2, SB.den, SE.den, shl56, shr63, shl0, shr0, sar56, c_eq, decide_eq_true_eq, decide_eq_false_iff_not] at h ⊢
    simp only [w_u64, w_i64, w_i8]
    generalize ρ 0 = x at *
    split <;> split <;> split <;> omega
theorem n21 (h : g2.den ρ = true) : ∀ q, q ∈ D21 → q.1.den ρ = q.2 := by
  intro q hq
  simp only [D21, List.mem_cons, List.not_mem_nil, or_false] at hq
  rcases hq with rfl | rfl
  · exact h
  · simp only [g2, SB.den, SE.den, shl56, shr63, shl0, shr0, sar56, c_eq, decide_eq_true_eq, decide_eq_false_iff_not] at h ⊢
    simp only [w_u64, w_i64, w_i8]
    generalize ρ 0 = x at *
    split <;> split <;> split <;> omega
theorem n30 (h : g3.den ρ = false) : ∀ q, q ∈ D30 → q.1.den ρ = q.2 := by
  intro q hq
  simp only [D30, List.mem_cons, List.not_mem_nil, or_false] at hq
  rcases hq with rfl | rfl
  · exact h
  · simp only [g3, SB.den, SE.den, shl48, shr63, shl0, shr0, sar48, c_eq, decide_eq_true_eq, decide_eq_false_iff_not] at h ⊢
    simp only [w_u64, w_i64, w_i16]
    generalize ρ 0 = x at *
    split <;> split <;> split <;> omega
theorem n31 (h : g3.den ρ = true) : ∀ q, q ∈ D31 → q.1.den ρ = q.2 := by
  intro q hq
  simp only [D31, List.mem_cons, List.not_mem_nil, or_false] at hq
  rcases hq with rfl | rfl
  · exact h
  · simp only [g3, SB.den, SE.den, shl48, shr63, shl0, shr0, sar48, c_eq, decide_eq_true_eq, decide_eq_false_iff_not] at h ⊢
    simp only [w_u64, w_i64, w_i16]
    generalize ρ 0 = x at *
    split <;> split <;> split <;> omega
theorem n40 (h : g4.den ρ = false) : ∀ q, q ∈ D40 → q.1.den ρ = q.2 := by
  intro q hq
  simp only [D40, List.mem_cons, List.not_mem_nil, or_false] at hq
  rcases hq with rfl | rfl
  · exact h
  · simp only [g4, SB.den, SE.den, shl32, shr63, shl0, shr0, sar32, c_eq, decide_eq_true_eq, decide_eq_false_iff_not] at h ⊢
    simp only [w_u64, w_i64, w_i32]
    generalize ρ 0 = x at *
    split <;> split <;> split <;> omega
theorem n41 (h : g4.den ρ = true) : ∀ q, q ∈ D41 → q.1.den ρ = q.2 := by
  intro q hq
  simp only [D41, List.mem_cons, List.not_mem_nil, or_false] at hq
  rcases hq with rfl | rfl
  · exact h
  · simp only [g4, SB.den, SE.den, shl32, shr63, shl0, shr0, sar32, c_eq, decide_eq_true_eq, decide_eq_false_iff_not] at h ⊢
    simp only [w_u64, w_i64, w_i32]
    generalize ρ 0 = x at *
    split <;> split <;> split <;> omega
theorem n00 (h : g0.den ρ = false) : ∀ q, q ∈ D00 → q.1.den ρ = q.2 := by
  intro q hq
  simp only [D00, List.mem_cons, List.not_mem_nil, or_false] at hq
  simp only [g0, SB.den, SE.den, b_and, shl56, shr63, c_eq, decide_eq_true_eq, decide_eq_false_iff_not] at h
  rcases hq with rfl | rfl | rfl | rfl | rfl <;> simp only [SB.den, SE.den, b_and, shl56, shl24, shl32, shr32, shr63, sar24, b_sub, c_eq, c_le, c_ge, decide_eq_true_eq, decide_eq_false_iff_not]
  all_goals try simp only [w_u64, w_u32, w_i64, w_i32, w_i8]
  all_goals generalize ρ 0 = x at *
  · omega
  · omega
  · omega
  · omega
  · split <;> split <;> split <;> omega
theorem n01 (h : g0.den ρ = true) : ∀ q, q ∈ D01 → q.1.den ρ = q.2 := by
  intro q hq
  simp only [D01, List.mem_cons, List.not_mem_nil, or_false] at hq
  simp only [g0, SB.den, SE.den, b_and, shl56, shr63, c_eq, decide_eq_true_eq, decide_eq_false_iff_not] at h
  rcases hq with rfl | rfl | rfl | rfl | rfl <;> simp only [SB.den, SE.den, b_and, shl56, shl24, shl32, shr32, shr63, sar24, b_sub, c_eq, c_le, c_ge, decide_eq_true_eq, decide_eq_false_iff_not]
  all_goals try simp only [w_u64, w_u32, w_i64, w_i32, w_i8]
  all_goals generalize ρ 0 = x at *
  · omega
  · omega
  · omega
  · omega
  · split <;> split <;> split <;> split <;> omega
theorem n10 (h : g1.den ρ = false) : ∀ q, q ∈ D10 → q.1.den ρ = q.2 := by
  intro q hq
  simp only [D10, List.mem_cons, List.not_mem_nil, or_false] at hq
  simp only [g1, SB.den, SE.den, b_and, shl48, shr63, c_eq, decide_eq_true_eq, decide_eq_false_iff_not] at h
  rcases hq with rfl | rfl | rfl | rfl | rfl <;> simp only [SB.den, SE.den, b_and, shl48, shl16, shl32, shr32, shr63, sar16, b_sub, c_eq, c_le, c_ge, decide_eq_true_eq, decide_eq_false_iff_not]
  all_goals try simp only [w_u64, w_u32, w_i64, w_i32, w_i16]
  all_goals generalize ρ 0 = x at *
  · omega
  · omega
  · omega
  · omega
  · split <;> split <;> split <;> omega
theorem n11 (h : g1.den ρ = true) : ∀ q, q ∈ D11 → q.1.den ρ = q.2 := by
  intro q hq
  simp only [D11, List.mem_cons, List.not_mem_nil, or_false] at hq
  simp only [g1, SB.den, SE.den, b_and, shl48, shr63, c_eq, decide_eq_true_eq, decide_eq_false_iff_not] at h
  rcases hq with rfl | rfl | rfl | rfl | rfl <;> simp only [SB.den, SE.den, b_and, shl48, shl16, shl32, shr32, shr63, sar16, b_sub, c_eq, c_le, c_ge, decide_eq_true_eq, decide_eq_false_iff_not]
  all_goals try simp only [w_u64, w_u32, w_i64, w_i32, w_i16]
  all_goals generalize ρ 0 = x at *
  · omega
  · omega
  · omega
  · omega
  · split <;> split <;> split <;> split <;> omega
end
end Go.Proofs.Le
