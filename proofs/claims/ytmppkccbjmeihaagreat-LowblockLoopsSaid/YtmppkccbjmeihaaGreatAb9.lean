/- Structs, and the operations that only reckon, together. -/
import Derived.Test.YtmppkccbjmeihaaGreatAb8
namespace Go.Abs
set_option autoImplicit true
set_option relaxedAutoImplicit true
set_option linter.unusedVariables false
set_option linter.unusedSimpArgs false
set_option linter.unusedSectionVars false
open Go.RowKit

section
variable {P : Program} {ρ : Nat → Int} {μ : Mu} {F : Fr} {E : Env} {a : Act}

theorem cells_VR {v : AVal} {x : Value} (h : VR ρ μ v x) : VRs ρ μ v.cells x.cells.toList := by
  cases h with
  | agg cs vs hs => simpa [AVal.cells, Value.cells] using hs
  | _ => exact .cons _ _ _ _ (by constructor <;> assumption) .nil

theorem fold_set : ∀ (l : List Value) (k off : Nat) (arr : Array Value), off + k + l.length ≤ arr.size →
    ((l.zipIdx k).foldl (fun (cs : Array Value) p => cs.setIfInBounds (off + p.2) p.1) arr).toList = arr.toList.take (off + k) ++ l ++ arr.toList.drop (off + k + l.length)
  | [], k, off, arr, h => by simp
  | v :: l, k, off, arr, h => by
    simp only [List.length_cons] at h
    rw [List.zipIdx_cons, List.foldl_cons, fold_set l (k + 1) off _ (by simp; omega)]
    simp only [Array.toList_setIfInBounds]
    rw [List.set_eq_take_append_cons_drop, if_pos (by simp; omega)]
    have h1 : (arr.toList.take (off + k)).length = off + k := by simp; omega
    generalize arr.toList.take (off + k) = p at h1 ⊢
    have e1 : off + (k + 1) = p.length + 1 := by omega
    rw [e1, List.take_append, List.take_of_length_le (l := p) (by omega), List.drop_append, List.drop_of_length_le (l := p) (by omega)]
    rw [show p.length + 1 - p.length = 1 by omega, show p.length + 1 + l.length - p.length = l.length + 1 by omega]
    simp only [List.take_succ_cons, List.take_zero, List.drop_succ_cons, List.drop_drop, List.nil_append, List.append_assoc, List.singleton_append, List.length_cons]
    rw [show off + k + 1 + l.length = off + k + (l.length + 1) by omega]

/-- What the machine's own 'fill' does. -/
theorem fill_put {l : List AVal} {arr : Array Value} (hl : VRs ρ μ l arr.toList) {v : AVal} {x : Value} (hv : VR ρ μ v x) {off : Nat} (h : off + v.cells.length ≤ l.length) :
    VRs ρ μ (putAt l off v.cells) (x.cells.zipIdx.foldl (fun (cs : Array Value) (p : Value × Nat) => cs.setIfInBounds (off + p.2) p.1) arr).toList ∧
      off + x.cells.size ≤ arr.size ∧ (x.cells.zipIdx.foldl (fun (cs : Array Value) (p : Value × Nat) => cs.setIfInBounds (off + p.2) p.1) arr).toList.length = (putAt l off v.cells).length := by
  have hc := cells_VR hv
  have e1 := hc.length
  have e2 := hl.length
  simp only [Array.length_toList] at e1 e2
  have hle : off + x.cells.size ≤ arr.size := by omega
  have hf : (x.cells.zipIdx.foldl (fun (cs : Array Value) (p : Value × Nat) => cs.setIfInBounds (off + p.2) p.1) arr).toList = arr.toList.take off ++ x.cells.toList ++ arr.toList.drop (off + x.cells.size) := by
    rw [← Array.foldl_toList, Array.toList_zipIdx]
    have := fold_set x.cells.toList 0 off arr (by simpa using hle)
    simpa using this
  have hr : VRs ρ μ (putAt l off v.cells) (x.cells.zipIdx.foldl (fun (cs : Array Value) (p : Value × Nat) => cs.setIfInBounds (off + p.2) p.1) arr).toList := by
    rw [hf]
    unfold putAt
    rw [e1]
    exact ((hl.take off).append hc).append (hl.drop _)
  exact ⟨hr, hle, hr.length.symm⟩

theorem fillS_sound {pl : List (Nat × Nat)} : ∀ (ps : List (Nat × Operand)) {l r : List AVal} {arr : Array Value}, fillS pl l F E ps = some r → VRs ρ μ l arr.toList → AR ρ μ F E a →
    ∃ arr', Instr.fill (fun i => pl.toArray[i]?) arr (ps.map fun p => (p.1, a.eval p.2)) = some arr' ∧ VRs ρ μ r arr'.toList
  | [], l, r, arr, h, hl, ha => by cases h; exact ⟨arr, rfl, hl⟩
  | (i, x) :: ps, l, r, arr, h, hl, ha => by
    simp only [fillS, oget_some, bsel_none] at h
    obtain ⟨v, hv, p, hp, h1, h2, h⟩ := h
    have hx := evo_sound hv ha
    have e1 : v.cells.length = p.2 := Nat.eq_of_beq_eq_true h1
    have e2 : p.1 + p.2 ≤ l.length := Nat.le_of_ble_eq_true h2
    obtain ⟨g1, g2, g3⟩ := fill_put hl hx (off := p.1) (by omega)
    have e3 := (cells_VR hx).length
    simp only [Array.length_toList] at e3
    obtain ⟨arr', k1, k2⟩ := fillS_sound ps h g1 ha
    refine ⟨arr', ?_, k2⟩
    have hp' : pl.toArray[i]? = some p := by simpa using hp
    simp only [List.map_cons, Instr.fill, hp']
    rw [if_neg (by simp; omega)]
    exact k1
theorem fillA_sound {es : Nat} : ∀ (ps : List (Nat × Operand)) {l r : List AVal} {arr : Array Value}, fillA es l F E ps = some r → VRs ρ μ l arr.toList → AR ρ μ F E a →
    ∃ arr', Instr.fill (fun i => some (i * es, es)) arr (ps.map fun p => (p.1, a.eval p.2)) = some arr' ∧ VRs ρ μ r arr'.toList
  | [], l, r, arr, h, hl, ha => by cases h; exact ⟨arr, rfl, hl⟩
  | (i, x) :: ps, l, r, arr, h, hl, ha => by
    simp only [fillA, oget_some, bsel_none] at h
    obtain ⟨v, hv, h1, h2, h⟩ := h
    have hx := evo_sound hv ha
    have e1 : v.cells.length = es := Nat.eq_of_beq_eq_true h1
    have e2 : i * es + es ≤ l.length := Nat.le_of_ble_eq_true h2
    obtain ⟨g1, g2, g3⟩ := fill_put hl hx (off := i * es) (by omega)
    have e3 := (cells_VR hx).length
    simp only [Array.length_toList] at e3
    obtain ⟨arr', k1, k2⟩ := fillA_sound ps h g1 ha
    refine ⟨arr', ?_, k2⟩
    simp only [List.map_cons, Instr.fill]
    rw [if_neg (by simp; omega)]
    exact k1
theorem fillA_length {es : Nat} : ∀ (ps : List (Nat × Operand)) {l r : List AVal}, fillA es l F E ps = some r → r.length = l.length
  | [], l, r, h => by cases h; rfl
  | (i, x) :: ps, l, r, h => by
    simp only [fillA, oget_some, bsel_none] at h
    obtain ⟨v, hv, h1, h2, h⟩ := h
    have e1 : v.cells.length = es := Nat.eq_of_beq_eq_true h1
    have e2 : i * es + es ≤ l.length := Nat.le_of_ble_eq_true h2
    rw [fillA_length ps h]
    simp [putAt, e1]; omega

theorem typeZero_eq {t : TypeId} {z : List AVal} (h : typeZero P t = some z) : ∃ i v, P.info? t = some i ∧ i.zero = some v ∧ ofScalars v.cells.toList = some z := by
  unfold typeZero at h
  split at h
  · rename_i i hi
    split at h
    · rename_i v hv; exact ⟨i, v, hi, hv, h⟩
    · cases h
  · cases h
theorem eltZero_eq {t : TypeId} {z : List AVal} (h : eltZero P t = some z) : ∃ e i v, P.underlying t = some (.slice e) ∧ P.info? e = some i ∧ i.zero = some v ∧ ofScalars v.cells.toList = some z := by
  unfold eltZero at h
  split at h
  · rename_i e he
    split at h
    · rename_i i hi
      split at h
      · rename_i v hv; exact ⟨e, i, v, he, hi, hv, h⟩
      · cases h
    · cases h
  · cases h
theorem run_zeroValue' {t : TypeId} {i : TypeInfo} {v : Value} (hi : P.info? t = some i) (hv : i.zero = some v) (w : World) : (zeroValue t).run P w = .ok v w := by simp [zeroValue, typeInfo, hi, hv]
theorem mapM_places : ∀ (fs : List Field) {pl : List (Nat × Nat)}, (fs.mapM fun f => (P.info? f.type).map fun i => (f.offset, i.size)) = some pl → ∀ w, (fs.mapM fun f => (do pure (f.offset, ← sizeOf f.type) : Sem (Nat × Nat))).run P w = .ok pl w
  | [], pl, h, w => by simp at h; subst h; simp
  | f :: fs, pl, h, w => by
    simp only [List.mapM_cons] at h
    cases hi : P.info? f.type with
    | none => rw [hi] at h; simp at h
    | some i =>
      rw [hi] at h
      cases hm : (fs.mapM fun f => (P.info? f.type).map fun i => (f.offset, i.size)) with
      | none => rw [hm] at h; simp at h
      | some pl' =>
        rw [hm] at h
        simp at h
        subst h
        have := mapM_places fs hm w
        simp [List.mapM_cons, sizeOf, typeInfo, hi, this]
        have h2 := this
        simp [sizeOf, typeInfo] at h2
        simp [h2]
theorem build_sound {t : TypeId} {ps : Array (Nat × Operand)} {z r : List AVal} {pl : List (Nat × Nat)} (hz : typeZero P t = some z) (hp : places P t = some pl) (h : fillS pl z F E ps.toList = some r) (ha : AR ρ μ F E a) :
    ∃ x, VR ρ μ (.agg r) x ∧ ∀ w, (Instr.build t (ps.map fun (i, x) => (i, a.eval x))).run P w = .ok x w := by
  obtain ⟨i, v, hi, hv, hsc⟩ := typeZero_eq hz
  unfold places at hp
  split at hp
  · rename_i fs hfs
    obtain ⟨arr', k1, k2⟩ := fillS_sound (arr := v.cells) ps.toList h (by simpa using ofScalars_VRs (ρ := ρ) (μ := μ) hsc) ha
    refine ⟨.agg arr', by have := VR.agg (ρ := ρ) (μ := μ) _ _ k2; simpa using this, fun w => ?_⟩
    have hm := mapM_places fs.toList hp
    have hm' : ∀ w, (fs.mapM fun f => (do pure (f.offset, ← sizeOf f.type) : Sem (Nat × Nat))).run P w = .ok pl.toArray w := fun w => by
      rw [Array.mapM_eq_mapM_toList]
      simp only [Sem.run_map, hm w, Result.andThen_ok]
    simp only [Instr.build, Sem.run_bind, run_zeroValue' hi hv, Result.andThen_ok, run_underlying hfs, hm']
    have e : (ps.map fun x => (x.1, a.eval x.2)).toList = ps.toList.map fun p => (p.1, a.eval p.2) := by simp
    simp only [e, k1]
    rfl
  · cases hp
end
end Go.Abs
