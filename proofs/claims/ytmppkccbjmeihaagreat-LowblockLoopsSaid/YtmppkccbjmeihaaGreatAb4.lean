/- How our memory stands to the machine's. -/
import Derived.Test.YtmppkccbjmeihaaGreatAb3
import Derived.Below
namespace Go.Abs
set_option autoImplicit true
set_option relaxedAutoImplicit true
set_option linter.unusedVariables false
set_option linter.unusedSimpArgs false
set_option linter.unusedSectionVars false
open Go.RowKit

/-! #### what numbers that are not known come to -/
def intBin (op : BinOp) (k : IntKind) (x y : Int) : Int :=
  match op with
  | .add => k.wrap (x + y)
  | .sub => k.wrap (x - y)
  | .mul => k.wrap (x * y)
  | .quo => k.wrap (x.tdiv y)
  | .rem => x.tmod y
  | .and => k.wrap ((BitVec.ofInt k.bits x &&& BitVec.ofInt k.bits y).toNat)
  | .or => k.wrap ((BitVec.ofInt k.bits x ||| BitVec.ofInt k.bits y).toNat)
  | .xor => k.wrap ((BitVec.ofInt k.bits x ^^^ BitVec.ofInt k.bits y).toNat)
  | .andNot => k.wrap ((BitVec.ofInt k.bits x &&& ~~~(BitVec.ofInt k.bits y)).toNat)
  | .shl => k.wrap (x * 2 ^ (min y.toNat k.bits))
  | .shr => x.fdiv (2 ^ (min y.toNat k.bits))
  | _ => 0
def intCmpB (op : BinOp) (x y : Int) : Bool :=
  match op with
  | .eql => x == y
  | .neq => x != y
  | .lss => decide (x < y)
  | .leq => decide (x ≤ y)
  | .gtr => decide (x > y)
  | .geq => decide (x ≥ y)
  | _ => false
def SE.den (ρ : Nat → Int) : SE → Int
  | .var i => ρ i
  | .lit n => n
  | .bin op k _ a b => intBin op k (a.den ρ) (b.den ρ)
  | .conv k a => k.wrap (a.den ρ)
def SB.den (ρ : Nat → Int) : SB → Bool
  | .cmp op a b => intCmpB op (a.den ρ) (b.den ρ)
  | .not c => !(c.den ρ)

/-- Where a block of ours lies: its block, where it begins, how many cells are its own. -/
structure Loc where
  blk : Nat
  off : Nat
  ext : Nat
abbrev Mu := Nat → Option Loc

mutual
inductive VR (ρ : Nat → Int) (μ : Mu) : AVal → Value → Prop
  | int (k : IntKind) (n : Int) : VR ρ μ (.int k n) (.int k n)
  | sym (k : IntKind) (e : SE) : VR ρ μ (.sym k e) (.int k (e.den ρ))
  | bool (b : Bool) : VR ρ μ (.bool b) (.bool b)
  | symb (c : SB) : VR ρ μ (.symb c) (.bool (c.den ρ))
  | flt (k : FloatKind) (b : Nat) : VR ρ μ (.flt k b) (.float k b)
  | str (s : ByteArray) : VR ρ μ (.str s) (.string s)
  | nilPtr : VR ρ μ (.ptr none) (.pointer none)
  | ptr (b i : Nat) (m : Loc) : μ b = some m → VR ρ μ (.ptr (some (b, i))) (.pointer (some ⟨m.blk, m.off + i, none⟩))
  | nilSlice : VR ρ μ (.slice none 0 0 0) (.slice none 0 0)
  | slice (b i len cap : Nat) (m : Loc) : μ b = some m → len ≤ cap → VR ρ μ (.slice (some (b, i)) len cap 0) (.slice (some ⟨m.blk, m.off + i, none⟩) len cap)
  | oslice (b i len cap es cap' : Nat) (m : Loc) : μ b = some m → len ≤ cap → cap ≤ cap' → i + cap' * (es + 1) = m.ext → VR ρ μ (.slice (some (b, i)) len cap (es + 1)) (.slice (some ⟨m.blk, m.off + i, none⟩) len cap')
  | eslice (a : Addr) (c : Nat) : VR ρ μ .eslice (.slice (some a) 0 c)
  | nilMap : VR ρ μ (.map none) (.map none)
  | map (r : Nat) (m : Loc) : μ r = some m → VR ρ μ (.map (some r)) (.map (some m.blk))
  | fn (f : FuncId) (cs : List AVal) (vs : List Value) : VRs ρ μ cs vs → VR ρ μ (.fn f cs) (.func (.func f) #[] vs.toArray)
  | nilFn : VR ρ μ .nilFn .nilFunc
  | iface (t : TypeId) (v : AVal) (w : Value) : VR ρ μ v w → VR ρ μ (.iface t v) (.iface t w)
  | nilIface : VR ρ μ .nilIface .nilIface
  | agg (cs : List AVal) (vs : List Value) : VRs ρ μ cs vs → VR ρ μ (.agg cs) (.agg vs.toArray)
  | tuple (cs : List AVal) (vs : List Value) : VRs ρ μ cs vs → VR ρ μ (.tuple cs) (.tuple vs.toArray)
inductive VRs (ρ : Nat → Int) (μ : Mu) : List AVal → List Value → Prop
  | nil : VRs ρ μ [] []
  | cons (v : AVal) (w : Value) (l : List AVal) (r : List Value) : VR ρ μ v w → VRs ρ μ l r → VRs ρ μ (v :: l) (w :: r)
end

section
variable {ρ : Nat → Int} {μ μ' : Mu}
mutual
theorem VR.mono (h : ∀ b m, μ b = some m → μ' b = some m) : ∀ {v : AVal} {w : Value}, VR ρ μ v w → VR ρ μ' v w
  | _, _, .int k n => .int k n
  | _, _, .sym k e => .sym k e
  | _, _, .bool b => .bool b
  | _, _, .symb c => .symb c
  | _, _, .flt k b => .flt k b
  | _, _, .str s => .str s
  | _, _, .nilPtr => .nilPtr
  | _, _, .ptr b i m hm => .ptr b i m (h b m hm)
  | _, _, .nilSlice => .nilSlice
  | _, _, .slice b i len cap m hm h0 => .slice b i len cap m (h b m hm) h0
  | _, _, .oslice b i len cap es cap' m hm h0 h1 h2 => .oslice b i len cap es cap' m (h b m hm) h0 h1 h2
  | _, _, .eslice a c => .eslice a c
  | _, _, .nilMap => .nilMap
  | _, _, .map r m hm => .map r m (h r m hm)
  | _, _, .fn f cs vs hs => .fn f cs vs (VRs.mono h hs)
  | _, _, .nilFn => .nilFn
  | _, _, .iface t v w hv => .iface t v w (VR.mono h hv)
  | _, _, .nilIface => .nilIface
  | _, _, .agg cs vs hs => .agg cs vs (VRs.mono h hs)
  | _, _, .tuple cs vs hs => .tuple cs vs (VRs.mono h hs)
theorem VRs.mono (h : ∀ b m, μ b = some m → μ' b = some m) : ∀ {l : List AVal} {r : List Value}, VRs ρ μ l r → VRs ρ μ' l r
  | _, _, .nil => .nil
  | _, _, .cons v w l r hv hs => .cons v w l r (VR.mono h hv) (VRs.mono h hs)
end

theorem VRs.length {l : List AVal} {r : List Value} (h : VRs ρ μ l r) : l.length = r.length := by
  induction l generalizing r with
  | nil => cases h; rfl
  | cons v l ih => cases h with | cons _ _ _ _ _ hs => simp [ih hs]
theorem VRs.get {l : List AVal} {r : List Value} (h : VRs ρ μ l r) {i : Nat} {v : AVal} (hv : l[i]? = some v) : ∃ w, r[i]? = some w ∧ VR ρ μ v w := by
  induction l generalizing r i with
  | nil => simp at hv
  | cons x l ih =>
    cases h with
    | cons _ w _ r h1 hs =>
      cases i with
      | zero => simp at hv; subst hv; exact ⟨w, rfl, h1⟩
      | succ i => simp at hv; obtain ⟨w', e, h'⟩ := ih hs hv; exact ⟨w', by simpa using e, h'⟩
theorem VRs.append {l l' : List AVal} {r r' : List Value} (h : VRs ρ μ l r) (h' : VRs ρ μ l' r') : VRs ρ μ (l ++ l') (r ++ r') := by
  induction l generalizing r with
  | nil => cases h; exact h'
  | cons x l ih => cases h with | cons _ w _ r h1 hs => exact .cons _ _ _ _ h1 (ih hs)
theorem VRs.take {l : List AVal} {r : List Value} (h : VRs ρ μ l r) (n : Nat) : VRs ρ μ (l.take n) (r.take n) := by
  induction l generalizing r n with
  | nil => cases h; simp; exact .nil
  | cons x l ih =>
    cases h with
    | cons _ w _ r h1 hs =>
      cases n with
      | zero => exact .nil
      | succ n => exact .cons _ _ _ _ h1 (ih hs n)
theorem VRs.drop {l : List AVal} {r : List Value} (h : VRs ρ μ l r) (n : Nat) : VRs ρ μ (l.drop n) (r.drop n) := by
  induction l generalizing r n with
  | nil => cases h; simp; exact .nil
  | cons x l ih =>
    cases h with
    | cons _ w _ r h1 hs =>
      cases n with
      | zero => exact .cons _ _ _ _ h1 hs
      | succ n => exact ih hs n
theorem VRs.replicate {v : AVal} {w : Value} (h : VR ρ μ v w) (n : Nat) : VRs ρ μ (List.replicate n v) (List.replicate n w) := by
  induction n with
  | zero => exact .nil
  | succ n ih => exact .cons _ _ _ _ h ih
theorem VRs.flatten_replicate {l : List AVal} {r : List Value} (h : VRs ρ μ l r) (n : Nat) : VRs ρ μ (List.replicate n l).flatten (List.replicate n r).flatten := by
  induction n with
  | zero => exact .nil
  | succ n ih => simp only [List.replicate_succ, List.flatten_cons]; exact h.append ih

/-! #### values without memory -/
theorem ofScalar_VR {v : Value} {a : AVal} (h : ofScalar v = some a) : VR ρ μ a v := by
  unfold ofScalar at h
  split at h <;> (try simp only [forceI_eq, forceN_eq] at h) <;> (try (cases h; constructor)) <;> (try cases h)
theorem ofScalars_VRs {r : List Value} {l : List AVal} (h : ofScalars r = some l) : VRs ρ μ l r := by
  induction r generalizing l with
  | nil => cases h; exact .nil
  | cons v r ih =>
    simp only [ofScalars, oget_some] at h
    obtain ⟨a, ha, l', hl, e⟩ := h
    cases e
    exact .cons _ _ _ _ (ofScalar_VR ha) (ih hl)
theorem ofV_VR {v : Value} {a : AVal} (h : ofV v = some a) : VR ρ μ a v := by
  unfold ofV at h
  split at h
  · rename_i cs
    simp only [oget_some] at h; obtain ⟨l, hl, e⟩ := h; cases e
    have := VR.agg (ρ := ρ) (μ := μ) _ _ (ofScalars_VRs hl); simpa using this
  · rename_i cs
    simp only [oget_some] at h; obtain ⟨l, hl, e⟩ := h; cases e
    have := VR.tuple (ρ := ρ) (μ := μ) _ _ (ofScalars_VRs hl); simpa using this
  · exact ofScalar_VR h
theorem toScalar_eq {a : AVal} {v w : Value} (h : toScalar a = some v) (hr : VR ρ μ a w) : w = v := by
  unfold toScalar at h
  split at h <;> cases h <;> (try (cases hr; rfl))
  cases hr with | fn _ _ _ hs => cases hs; rfl
theorem toScalars_eq {l : List AVal} {r r' : List Value} (h : toScalars l = some r) (hr : VRs ρ μ l r') : r' = r := by
  induction l generalizing r r' with
  | nil => cases h; cases hr; rfl
  | cons a l ih =>
    simp only [toScalars, oget_some] at h
    obtain ⟨v, hv, l', hl, e⟩ := h
    cases e
    cases hr with
    | cons _ w _ r1 h1 hs => rw [toScalar_eq hv h1, ih hl hs]
theorem toV_eq {a : AVal} {v w : Value} (h : toV a = some v) (hr : VR ρ μ a w) : w = v := by
  unfold toV at h
  split at h
  · simp only [oget_some] at h; obtain ⟨l, hl, e⟩ := h; cases e
    cases hr with | agg _ _ hs => rw [toScalars_eq hl hs]
  · simp only [oget_some] at h; obtain ⟨l, hl, e⟩ := h; cases e
    cases hr with | tuple _ _ hs => rw [toScalars_eq hl hs]
  · exact toScalar_eq h hr
theorem toScalar_VR {a : AVal} {v : Value} (h : toScalar a = some v) : VR ρ μ a v := by
  unfold toScalar at h
  split at h <;> cases h <;> first | exact .bool _ | exact .int _ _ | exact .flt _ _ | exact .str _ | exact .nilPtr | exact .nilSlice | exact .nilMap | exact .nilFn | exact .nilIface | exact .fn _ _ [] .nil
end
end Go.Abs
