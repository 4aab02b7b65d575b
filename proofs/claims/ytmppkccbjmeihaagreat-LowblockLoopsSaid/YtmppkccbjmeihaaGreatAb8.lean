/- The other operations that only reckon. -/
import Derived.Test.YtmppkccbjmeihaaGreatAb7
import Derived.Laws.Slices
namespace Go.Abs
set_option autoImplicit true
set_option relaxedAutoImplicit true
set_option linter.unusedVariables false
set_option linter.unusedSimpArgs false
set_option linter.unusedSectionVars false
open Go.RowKit

section
variable {P : Program} {ρ : Nat → Int} {μ : Mu} {F : Fr} {E : Env} {a : Act}

theorem add_lit (B o n : Nat) : (⟨B, o, none⟩ : Addr).add n = ⟨B, o + n, none⟩ := by unfold Addr.add; split <;> simp_all

/-! #### slices -/
/-- A bound: the number that is meant where none stands, or what stands there. -/
def BD (a : Act) (x : Option Operand) (d most n : Nat) : Prop := x = none ∧ n = d ∨ ∃ o q, x = some o ∧ a.eval o = .int q (n : Nat) ∧ n ≤ most
theorem boundOr_sound {x : Option Operand} {d most : Nat} {k : Nat → Option AVal} {v : AVal} (h : boundOr F E x d most k = some v) (ha : AR ρ μ F E a) : ∃ n, BD a x d most n ∧ k n = some v := by
  unfold boundOr at h
  split at h
  · exact ⟨d, .inl ⟨rfl, rfl⟩, h⟩
  · rename_i o
    simp only [oget_some] at h
    obtain ⟨u, hu, h⟩ := h
    have g := evo_sound hu ha
    generalize ex : a.eval o = X at g
    unfold bound at h
    split at h
    · rename_i q n
      simp only [bsel_none] at h
      cases g
      exact ⟨n, .inr ⟨o, q, rfl, ex, Nat.le_of_ble_eq_true h.1⟩, h.2⟩
    · cases h
theorem BD.le {x : Option Operand} {d most n : Nat} (h : BD a x d most n) (hd : d ≤ most) : n ≤ most := by
  rcases h with ⟨_, rfl⟩ | ⟨_, _, _, _, h⟩
  · exact hd
  · exact h
theorem run_bound (k : IntKind) (n y : Nat) (code : BoundsCode) (h : n ≤ y) (w : World) : (Instr.sliceBound (.int k (n : Int)) y code).run P w = .ok n w := by
  have := run_sliceBound (P := P) w k (n : Int) y code (by omega) (by omega)
  simpa using this

/-- The bounds of a slice without a third one. -/
theorem run_bounds2 {lo hi : Option Operand} {len cap most l h : Nat} (s : Bool) (hh : BD a hi len most h) (hl : BD a lo 0 h l) (hm : most ≤ cap) (w : World) :
    (Instr.sliceBounds s len cap (lo.map a.eval) (hi.map a.eval) none).run P w = .ok (l, h, cap) w := by
  have h2 := hl.le (Nat.zero_le _)
  rcases hh with ⟨rfl, rfl⟩ | ⟨o, q, rfl, eo, h1⟩ <;> rcases hl with ⟨rfl, rfl⟩ | ⟨o', q', rfl, eo', _⟩
  · simp [Instr.sliceBounds]
  · simp [Instr.sliceBounds, eo', run_bound _ _ _ _ h2]
  · simp [Instr.sliceBounds, eo, run_bound _ _ _ _ (Nat.le_trans h1 hm)]
  · simp [Instr.sliceBounds, eo, eo', run_bound _ _ _ _ (Nat.le_trans h1 hm), run_bound _ _ _ _ h2]
theorem run_bounds3' {lo : Option Operand} {o1 o2 : Operand} {q1 q2 : IntKind} {len cap l h m : Nat} (s : Bool) (e1 : a.eval o1 = .int q1 (m : Nat)) (e2 : a.eval o2 = .int q2 (h : Nat)) (hl : BD a lo 0 h l)
    (h0 : m ≤ cap) (h1 : h ≤ m) (w : World) : (Instr.sliceBounds s len cap (lo.map a.eval) (some (a.eval o2)) (some (a.eval o1))).run P w = .ok (l, h, m) w := by
  have h2 := hl.le (Nat.zero_le _)
  rcases hl with ⟨rfl, rfl⟩ | ⟨o', q', rfl, eo', _⟩ <;> simp [Instr.sliceBounds, *, run_bound]

theorem eltSize_eq {t : TypeId} {es : Nat} (h : eltSize P t = some es) : ∃ e i, P.underlying t = some (.slice e) ∧ P.info? e = some i ∧ i.size = es := by
  unfold eltSize at h; split at h
  · rename_i e he
    cases hi : P.info? e with
    | none => rw [hi] at h; cases h
    | some i => rw [hi] at h; cases h; exact ⟨e, i, he, hi, rfl⟩
  · cases h

/-- A slice of a slice. -/
theorem run_slice_of {T e : TypeId} {i : TypeInfo} (hT : P.underlying T = some (.slice e)) (hi : P.info? e = some i) (p : Option Addr) (len cap : Nat) (lo hi' mx : Option Value) {l h m : Nat} {w : World}
    (hb : (Instr.sliceBounds true len cap lo hi' mx).run P w = .ok (l, h, m) w) :
    (Instr.sliceAt T (.slice p len cap) lo hi' mx).run P w = .ok (.slice (if m = l then p else p.map (·.add (l * i.size))) (h - l) (m - l)) w := by
  simp [Instr.sliceAt, Instr.slice, run_underlying hT, hb, sizeOf, typeInfo, hi]

theorem aslice_sound {T : TypeId} {x : Value} {v r : AVal} {lo hi mx : Option Operand} (h : aslice P F E T v lo hi mx = some r) (hv : VR ρ μ v x) (ha : AR ρ μ F E a) :
    ∃ z, VR ρ μ r z ∧ ∀ w, (Instr.sliceAt T x (lo.map a.eval) (hi.map a.eval) (mx.map a.eval)).run P w = .ok z w := by
  unfold aslice at h
  split at h
  · rename_i s
    cases hv
    split at h
    · simp only [bsel_none] at h
      obtain ⟨hT, h⟩ := h
      have hT := isStringT_eq hT
      obtain ⟨hh, g1, h⟩ := boundOr_sound h ha
      obtain ⟨l, g2, h⟩ := boundOr_sound h ha
      cases h
      refine ⟨_, .str _, fun w => ?_⟩
      have hb := run_bounds2 (P := P) (cap := s.size) false g1 g2 (Nat.le_refl _) w
      simp [Instr.sliceAt, Instr.slice, run_underlying hT, hb]
    · cases h
  · cases hv with
    | eslice p c =>
    split at h
    · simp only [oget_some] at h
      obtain ⟨es, hT0, h⟩ := h
      obtain ⟨e, i, hT, hi0, hes⟩ := eltSize_eq hT0
      obtain ⟨hh, g1, h⟩ := boundOr_sound h ha
      obtain ⟨l, g2, h⟩ := boundOr_sound h ha
      cases h
      obtain rfl : hh = 0 := Nat.le_zero.1 (g1.le (Nat.le_refl _))
      obtain rfl : l = 0 := Nat.le_zero.1 (g2.le (Nat.le_refl _))
      refine ⟨_, .eslice p c, fun w => ?_⟩
      have hb := run_bounds2 (P := P) (cap := c) true g1 g2 (Nat.zero_le _) w
      simp only [Option.map_none]
      rw [run_slice_of hT hi0 (some p) 0 c _ _ _ hb]
      simp [Addr.add]
    · cases h
  · rename_i p len cap opn
    simp only [oget_some] at h
    obtain ⟨es, hT0, h⟩ := h
    obtain ⟨e, i, hT, hi0, hes⟩ := eltSize_eq hT0
    subst hes
    split at h
    · rename_i o1
      obtain ⟨m, g1, h'⟩ := boundOr_sound h ha
      simp only [oget_some] at h'
      obtain ⟨o2, ho2, h''⟩ := h'
      subst ho2
      clear h
      obtain ⟨hh, g2, h'⟩ := boundOr_sound h'' ha
      clear h''
      obtain ⟨l, g3, h⟩ := boundOr_sound h' ha
      clear h'
      have hm := g1.le (Nat.zero_le _)
      have hh' := g2.le (Nat.zero_le _)
      have hl' := g3.le (Nat.zero_le _)
      rcases g1 with ⟨g1, _⟩ | ⟨_, q1, g1, e1, _⟩
      · cases g1
      cases g1
      rcases g2 with ⟨g2, _⟩ | ⟨_, q2, g2, e2, _⟩
      · cases g2
      cases g2
      simp only [Option.map_some]
      have hb := fun (c : Nat) (hc : m ≤ c) w => run_bounds3' (P := P) (len := len) (cap := c) true e1 e2 g3 hc hh' w
      split at h
      · cases h
        cases hv with
        | nilSlice =>
          obtain rfl : m = 0 := Nat.le_zero.1 hm
          obtain rfl : hh = 0 := Nat.le_zero.1 hh'
          obtain rfl : l = 0 := Nat.le_zero.1 hl'
          exact ⟨_, .nilSlice, fun w => by rw [run_slice_of hT hi0 none 0 0 _ _ _ (hb 0 (Nat.le_refl _) w)]; simp⟩
      · rename_i b j
        rw [bsel_eq] at h
        simp only [forceN_eq] at h
        have key : ∀ (q : Addr) (c : Nat) (ml : Loc), μ b = some ml → q = ⟨ml.blk, ml.off + j, none⟩ → m ≤ c → ∃ z, VR ρ μ r z ∧ ∀ w, (Instr.sliceAt T (.slice (some q) len c) (lo.map a.eval) (some (a.eval o2)) (some (a.eval o1))).run P w = .ok z w := fun q c ml hml hq hc => by
          by_cases e : m = l
          · subst e
            rw [if_pos (by simp)] at h
            cases h
            refine ⟨_, .slice b j (hh - m) 0 ml hml (by omega), fun w => ?_⟩
            rw [run_slice_of hT hi0 (some q) len c _ _ _ (hb c hc w), if_pos rfl, hq]; simp
          · rw [if_neg (by simpa using e)] at h
            cases h
            refine ⟨_, .slice b (j + l * i.size) (hh - l) (m - l) ml hml (by omega), fun w => ?_⟩
            rw [run_slice_of hT hi0 (some q) len c _ _ _ (hb c hc w), if_neg e, hq]
            simp [add_lit, Nat.add_assoc]
        cases hv with
        | slice _ _ _ _ ml hml _ => exact key _ _ ml hml rfl hm
        | oslice _ _ _ _ _ cap' ml hml _ hle _ => exact key _ _ ml hml rfl (Nat.le_trans hm hle)
    · obtain ⟨hh, g2, h1⟩ := boundOr_sound h ha
      clear h
      obtain ⟨l, g3, h⟩ := boundOr_sound h1 ha
      clear h1
      simp only [Option.map_none]
      have hl' := g3.le (Nat.zero_le _)
      split at h
      · cases h
        cases hv with
        | nilSlice =>
          obtain rfl : hh = 0 := Nat.le_zero.1 (g2.le (Nat.le_refl _))
          obtain rfl : l = 0 := Nat.le_zero.1 hl'
          exact ⟨_, .nilSlice, fun w => by
            have hb := run_bounds2 (P := P) (cap := 0) true g2 g3 (Nat.le_refl _) w
            rw [run_slice_of hT hi0 none 0 0 _ _ _ hb]; simp⟩
      · rename_i b j
        simp only [bsel_eq, forceN_eq] at h
        cases hv with
        | slice _ _ _ _ ml hml hlen =>
          have hcap := g2.le hlen
          have hb := fun w => run_bounds2 (P := P) (cap := cap) true g2 g3 (Nat.le_refl _) w
          by_cases e : cap = l
          · rw [if_pos (by simpa using e), if_pos (by simp)] at h
            cases h
            refine ⟨_, .slice b j (hh - l) 0 ml hml (by omega), fun w => ?_⟩
            rw [run_slice_of hT hi0 _ len cap _ _ _ (hb w), if_pos e, e, Nat.sub_self]
          · rw [if_neg (by simpa using e), if_pos (by simp)] at h
            cases h
            refine ⟨_, .slice b (j + l * i.size) (hh - l) (cap - l) ml hml (by omega), fun w => ?_⟩
            rw [run_slice_of hT hi0 _ len cap _ _ _ (hb w), if_neg e]
            simp [add_lit, Nat.add_assoc]
        | oslice _ _ _ _ es cap' ml hml hlen hle hext =>
          have hcap := g2.le hlen
          have hb := fun w => run_bounds2 (P := P) (cap := cap') true g2 g3 hle w
          by_cases e : cap = l
          · rw [if_pos (by simpa using e), if_neg (by simp)] at h
            by_cases e0 : l = 0
            · rw [if_pos (by simpa using e0)] at h
              cases h
              subst e0
              obtain rfl : hh = 0 := by omega
              refine ⟨_, .oslice b j 0 0 es cap' ml hml (Nat.le_refl _) (Nat.zero_le _) hext, fun w => ?_⟩
              rw [run_slice_of hT hi0 _ len cap' _ _ _ (hb w)]
              simp [add_lit]
            · rw [if_neg (by simpa using e0)] at h
              cases h
              obtain rfl : hh = l := by omega
              by_cases e1 : cap' = hh
              · refine ⟨_, .eslice ⟨ml.blk, ml.off + j, none⟩ 0, fun w => ?_⟩
                rw [run_slice_of hT hi0 _ len cap' _ _ _ (hb w), if_pos e1, e1, Nat.sub_self]
              · refine ⟨_, .eslice ⟨ml.blk, ml.off + j + hh * i.size, none⟩ (cap' - hh), fun w => ?_⟩
                rw [run_slice_of hT hi0 _ len cap' _ _ _ (hb w), if_neg e1, Nat.sub_self]
                simp [add_lit]
          · rw [if_neg (by simpa using e)] at h
            by_cases e2 : es + 1 = i.size
            · rw [if_pos (by simp [e2])] at h
              cases h
              have hlt : l < cap := by omega
              refine ⟨_, .oslice b (j + l * i.size) (hh - l) (cap - l) es (cap' - l) ml hml (by omega) (by omega) ?_, fun w => ?_⟩
              · rw [← e2, Nat.sub_mul]
                have : l * (es + 1) ≤ cap' * (es + 1) := Nat.mul_le_mul_right _ (by omega)
                omega
              · rw [run_slice_of hT hi0 _ len cap' _ _ _ (hb w), if_neg (by omega)]
                simp [add_lit, Nat.add_assoc]
            · rw [if_neg (by simpa using e2)] at h
              cases h
  · cases h
end
end Go.Abs
