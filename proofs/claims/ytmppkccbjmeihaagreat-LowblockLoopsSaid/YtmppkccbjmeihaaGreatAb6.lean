/- Operations on numbers are the machine's. -/
import Derived.Test.YtmppkccbjmeihaaGreatAb5
namespace Go.Abs
set_option autoImplicit true
set_option relaxedAutoImplicit true
set_option linter.unusedVariables false
set_option linter.unusedSimpArgs false
set_option linter.unusedSectionVars false
open Go.RowKit

theorem wrapI_eq (k : IntKind) (n : Int) : wrapI k n = k.wrap n := by
  have e : ∀ m : Int, Int.emod n m = n % m := fun _ => rfl
  have s : ∀ a b : Int, Int.sub a b = a - b := fun _ _ => rfl
  cases k <;> simp only [wrapI, IntKind.wrap, IntKind.bits, IntKind.signed, leI_eq, bsel_eq, e, s] <;> simp <;> (try split) <;> (try split) <;> (try split) <;> omega
theorem intV_eq (k : IntKind) (n : Int) : intV k n = some (.int k (k.wrap n)) := by unfold intV; rw [forceI_eq, wrapI_eq]
theorem isK_eq {a b : IntKind} (h : isK a b = true) : a = b := by cases a <;> cases b <;> first | rfl | cases h

section
variable {P : Program} {ρ : Nat → Int} {μ : Mu}

/-- The operation of two operands, as the machine does it. -/
def semBin (op : BinOp) (T : TypeId) (x y : Operand) (a b : Value) : Sem Value := do eqGuard op T x y a b; Go.binOp op T a b
theorem semBin_int (op : BinOp) (T : TypeId) (x y : Operand) (k k' : IntKind) (a b : Int) : semBin op T x y (.int k a) (.int k' b) = Go.binOp op T (.int k a) (.int k' b) := by
  unfold semBin eqGuard
  cases op <;> simp

theorem ibin_sound {op : BinOp} {k : IntKind} {x y : Int} {v : AVal} (h : ibin op k x y = some v) (T : TypeId) : ∃ z, VR ρ μ v z ∧ ∀ w, (Go.binOp op T (.int k x) (.int k y)).run P w = .ok z w := by
  have hs : ∀ a b : Int, Int.sub a b = a - b := fun _ _ => rfl
  have ha : ∀ a b : Int, Int.add a b = a + b := fun _ _ => rfl
  have hm : ∀ a b : Int, Int.mul a b = a * b := fun _ _ => rfl
  cases op <;> simp only [ibin, intV_eq, Option.some.injEq, reduceCtorEq] at h
  all_goals subst h
  case add => exact ⟨_, .int _ _, fun w => by simp [Go.binOp, Op.intArith, ha]⟩
  case sub => exact ⟨_, .int _ _, fun w => by simp [Go.binOp, Op.intArith, hs]⟩
  case mul => exact ⟨_, .int _ _, fun w => by simp [Go.binOp, Op.intArith, hm]⟩
  case eql => exact ⟨_, .bool _, fun w => by simp [Go.binOp, Op.intCmp, eqI_eq]; exact Bool.eq_iff_iff.2 (by simp)⟩
  case neq => exact ⟨_, .bool _, fun w => by simp [Go.binOp, Op.intCmp, eqI_eq, bsel_eq]; by_cases e : x = y <;> simp [e]⟩
  case lss => exact ⟨_, .bool _, fun w => by simp [Go.binOp, Op.intCmp, leI_eq, bsel_eq]; by_cases e : x < y <;> simp [e] <;> omega⟩
  case leq => exact ⟨_, .bool _, fun w => by simp [Go.binOp, Op.intCmp, leI_eq]⟩
  case gtr => exact ⟨_, .bool _, fun w => by simp [Go.binOp, Op.intCmp, leI_eq, bsel_eq]; by_cases e : y < x <;> simp [e] <;> omega⟩
  case geq => exact ⟨_, .bool _, fun w => by simp [Go.binOp, Op.intCmp, leI_eq]⟩

/-- Bits of a kind's numbers that are not below 0. -/
def posBits (k : IntKind) : Nat := match k with | .i8 => 7 | .i16 => 15 | .i32 => 31 | .i64 => 63 | .u8 => 8 | .u16 => 16 | .u32 => 32 | .u64 => 64
theorem posBits_le (k : IntKind) : posBits k ≤ k.bits := by cases k <;> decide
theorem maxI_lt {k : IntKind} {a : Nat} (h : leI (Int.ofNat a) (maxI k) = true) : a < 2 ^ posBits k := by
  rw [leI_eq] at h
  have h' : (a : Int) ≤ maxI k := by simpa using h
  cases k <;> simp only [maxI, posBits] at h' ⊢ <;> omega
theorem wrap_pos {k : IntKind} {a : Nat} (h : a < 2 ^ posBits k) : k.wrap (a : Int) = (a : Int) := by
  cases k <;> simp only [posBits] at h <;> simp [IntKind.wrap, IntKind.bits, IntKind.signed] <;> (try split) <;> omega
theorem ofInt_pos {k : IntKind} {a : Nat} (h : a < 2 ^ posBits k) : (BitVec.ofInt k.bits (a : Int)).toNat = a := by
  have : a < 2 ^ k.bits := Nat.lt_of_lt_of_le h (Nat.pow_le_pow_right (by decide) (posBits_le k))
  rw [BitVec.ofInt_natCast, BitVec.toNat_ofNat, Nat.mod_eq_of_lt this]
theorem mod_pos {k : IntKind} {a : Nat} (h : a < 2 ^ posBits k) : a % 2 ^ k.bits = a :=
  Nat.mod_eq_of_lt (Nat.lt_of_lt_of_le h (Nat.pow_le_pow_right (by decide) (posBits_le k)))
theorem bitsN_eq (k : IntKind) : bitsN k = k.bits := by cases k <;> rfl
theorem min_bits (b : Nat) (k : IntKind) : bsel (Nat.ble b (bitsN k)) b (bitsN k) = min b k.bits := by
  rw [bsel_eq, bitsN_eq]
  by_cases h : b ≤ k.bits
  · rw [if_pos (Nat.ble_eq ▸ h : Nat.ble b k.bits = true), Nat.min_eq_left h]
  · rw [if_neg (fun e => h (Nat.le_of_ble_eq_true e)), Nat.min_eq_right (by omega)]

theorem ibits_sound {op : BinOp} {k k' : IntKind} {x y : Int} {v : AVal} (h : ibits op k x y = some v) (hk : isShift op = true ∨ k = k') (T : TypeId) : ∃ z, VR ρ μ v z ∧ ∀ w, (Go.binOp op T (.int k x) (.int k' y)).run P w = .ok z w := by
  cases x with
  | negSucc _ => cases op <;> cases y <;> simp [ibits] at h
  | ofNat a =>
  cases y with
  | negSucc _ => cases op <;> simp [ibits] at h
  | ofNat b =>
  cases op <;> simp only [ibits, forceN_eq, bsel_none, bsel_none', intV_eq, reduceCtorEq] at h
  case and =>
    obtain ⟨h1, h2, h3⟩ := h
    cases h3
    rcases hk with hk | rfl; · cases hk
    have h1 := maxI_lt h1; have h2 := maxI_lt h2
    refine ⟨_, .int _ _, fun w => ?_⟩
    have hb : Nat.land a b = a &&& b := rfl
    simp [Go.binOp, Op.intBits, BitVec.toNat_and, mod_pos h1, mod_pos h2, hb]
    exact_mod_cast wrap_pos (k := k) (a := a &&& b) (Nat.lt_of_le_of_lt Nat.and_le_left h1)
  case or =>
    obtain ⟨h1, h2, h3⟩ := h
    cases h3
    rcases hk with hk | rfl; · cases hk
    have h1 := maxI_lt h1; have h2 := maxI_lt h2
    refine ⟨_, .int _ _, fun w => ?_⟩
    have hb : Nat.lor a b = a ||| b := rfl
    simp [Go.binOp, Op.intBits, BitVec.toNat_or, mod_pos h1, mod_pos h2, hb]
    exact_mod_cast wrap_pos (Nat.or_lt_two_pow h1 h2)
  case xor =>
    obtain ⟨h1, h2, h3⟩ := h
    cases h3
    rcases hk with hk | rfl; · cases hk
    have h1 := maxI_lt h1; have h2 := maxI_lt h2
    refine ⟨_, .int _ _, fun w => ?_⟩
    have hb : Nat.xor a b = a ^^^ b := rfl
    simp [Go.binOp, Op.intBits, BitVec.toNat_xor, mod_pos h1, mod_pos h2, hb]
    exact_mod_cast wrap_pos (Nat.xor_lt_two_pow h1 h2)
  case quo =>
    obtain ⟨h1, h2⟩ := h
    cases h2
    rcases hk with hk | rfl; · cases hk
    have hb : ¬ (Int.ofNat b = 0) := fun e => by have : b = 0 := by simpa using e
                                                 subst this; cases h1
    refine ⟨_, .int _ _, fun w => ?_⟩
    simp only [Go.binOp, Op.intDiv]
    simp only [ne_eq, not_true, if_false, hb]
    rfl
  case rem =>
    obtain ⟨h1, h2⟩ := h
    cases h2
    rcases hk with hk | rfl; · cases hk
    have hb : ¬ (Int.ofNat b = 0) := fun e => by have : b = 0 := by simpa using e
                                                 subst this; cases h1
    refine ⟨_, .int _ _, fun w => ?_⟩
    simp only [Go.binOp, Op.intDiv]
    simp only [ne_eq, not_true, if_false, hb]
    rfl
  case shl =>
    cases h
    refine ⟨_, .int _ _, fun w => ?_⟩
    have hneg : ¬ (Int.ofNat b < 0) := by simp
    simp only [Go.binOp, Op.shift, hneg, if_false, min_bits]
    have e : (Int.ofNat a) * 2 ^ (min (Int.ofNat b).toNat k.bits) = Int.ofNat (Nat.mul a (Nat.pow 2 (min b k.bits))) := by
      show (a : Int) * 2 ^ (min b k.bits) = ((a * 2 ^ (min b k.bits) : Nat) : Int)
      push_cast; rfl
    rw [e]
    rfl
  case shr =>
    cases h
    refine ⟨_, .int _ _, fun w => ?_⟩
    have hneg : ¬ (Int.ofNat b < 0) := by simp
    simp only [Go.binOp, Op.shift, hneg, if_false, min_bits]
    have e : (Int.ofNat a).fdiv (2 ^ (min (Int.ofNat b).toNat k.bits)) = Int.ofNat (Nat.div a (Nat.pow 2 (min b k.bits))) := by
      show (a : Int).fdiv (2 ^ (min b k.bits)) = ((a / 2 ^ (min b k.bits) : Nat) : Int)
      rw [Int.fdiv_eq_ediv_of_nonneg _ (by exact_mod_cast Nat.zero_le _)]
      push_cast; rfl
    rw [e]
    rfl

theorem intBin_sound {op : BinOp} (k k' : IntKind) (x y : Int) (T : TypeId) (hop : isArith op = true ∧ k = k' ∨ isShift op = true ∧ 0 ≤ y ∨ (op = .quo ∨ op = .rem) ∧ y ≠ 0 ∧ k = k') :
    ∀ w, (Go.binOp op T (.int k x) (.int k' y)).run P w = .ok (.int k (intBin op k x y)) w := by
  intro w
  rcases hop with ⟨h, rfl⟩ | ⟨h, h0⟩ | ⟨h, h0, rfl⟩
  · cases op <;> first | exact absurd h (by decide) | simp [Go.binOp, Op.intArith, Op.intBits, intBin]
  · have hneg : ¬ (y < 0) := by omega
    cases op <;> first | exact absurd h (by decide) | simp [Go.binOp, Op.shift, intBin, hneg]
  · rcases h with rfl | rfl <;> simp [Go.binOp, Op.intDiv, intBin, h0]
theorem intCmp_sound {op : BinOp} (k : IntKind) (x y : Int) (T : TypeId) (hop : isCmp op = true) : ∀ w, (Go.binOp op T (.int k x) (.int k y)).run P w = .ok (.bool (intCmpB op x y)) w := by
  intro w
  cases op <;> first | exact absurd hop (by decide) | simp [Go.binOp, Op.intCmp, intCmpB]

theorem pureRun_sound {α : Type} : ∀ (s : Sem α) (a : α), pureRun P s = some a → ∀ w, s.run P w = .ok a w
  | .pure a, b, h, w => by cases h; rfl
  | .program k, b, h, w => pureRun_sound (k P) b h w
  | .mark _ k, b, h, w => pureRun_sound k b h w
  | .choose q k, b, h, w => by
    unfold pureRun at h
    by_cases hq : q.forced = true
    · rw [if_pos hq] at h
      have := pureRun_sound (k 0) b h w
      simp only [Sem.run, hq, if_true]; exact this
    · rw [if_neg hq] at h; cases h
  | .load .., b, h, w | .store .., b, h, w | .new .., b, h, w | .shape .., b, h, w | .freeze .., b, h, w | .frozen .., b, h, w | .getObj .., b, h, w | .setObj .., b, h, w | .sys .., b, h, w | .halt .., b, h, w => by simp [pureRun] at h
end
end Go.Abs
