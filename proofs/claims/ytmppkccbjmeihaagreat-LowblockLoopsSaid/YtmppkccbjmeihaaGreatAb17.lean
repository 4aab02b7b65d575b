/- Regions whose order is the text's; code; calls. -/
import Derived.Test.YtmppkccbjmeihaaGreatAb16
import Derived.LoopN
namespace Go.Abs
set_option autoImplicit true
set_option relaxedAutoImplicit true
set_option linter.unusedVariables false
set_option linter.unusedSimpArgs false
set_option linter.unusedSectionVars false
open Go.RowKit

section
variable {P : Program} {ρ : Nat → Int} {μ : Mu} {F F' : Fr} {E : Env} {a : Act} {S S' S₁ : St} {C : Handler} {orc : SB → Option Bool} {w : World}

theorem stores_next {b i : Nat} {l : List AVal} (h : S.stores b i l = some S') : S'.next = S.next := by
  simp only [St.stores, oget_some] at h
  obtain ⟨B, hB, B', hB', hs⟩ := h
  rw [St.setBlk_eq] at hs
  cases hs; rfl
theorem setBlk_next {b : Nat} {B : ABlk} (h : S.setBlk b B = some S') : S'.next = S.next := by rw [St.setBlk_eq] at h; cases h; rfl
theorem new_next1 {b : Nat} {B : ABlk} (h : S.new B = some (b, S')) : S'.next = S.next + 1 := by rw [St.new_eq] at h; cases h; rfl
theorem new_next1' {B : ABlk} {q : Nat × St} (h : S.new B = some q) : q.2.next = S.next + 1 := by rw [St.new_eq] at h; cases h; rfl

theorem aappend_next {c : Call} {s x v : AVal} (h : aappend P S c s x = some (v, S')) : S.next ≤ S'.next := by
  unfold aappend at h
  split at h
  · simp only [oget_some, bsel_none, bsel_none'] at h
    obtain ⟨es, _, by_, _, z, _, _, _, r, _, h⟩ := h
    split at h
    · rw [bsel_eq] at h
      split at h
      · cases h; exact Nat.le_refl _
      · simp only [oget_some, bsel_none] at h
        obtain ⟨_, _, q, hq, e⟩ := h
        cases e
        have := new_next1' hq
        omega
    · rw [forceN_eq, bsel_eq] at h
      split at h
      · simp only [oget_some] at h
        obtain ⟨S1, hs, e⟩ := h
        cases e
        have := stores_next hs
        omega
      · simp only [oget_some, bsel_none] at h
        obtain ⟨_, _, old, _, h⟩ := h
        rw [bsel_eq] at h
        split at h
        · simp only [oget_some] at h
          obtain ⟨q, hq, e⟩ := h
          cases e
          have := new_next1' hq
          omega
        · simp only [oget_some, bsel_none] at h
          obtain ⟨_, _, _, S1, hk, q, hq, e⟩ := h
          cases e
          have := new_next1' hq
          have := setBlk_next hk
          omega
    · cases h
  · cases h

theorem evOp_next (hC : HandlerOK P ρ C) (hor : ∀ c b, orc c = some b → c.den ρ = b) {o : Oper} {v : AVal} (h : evOp C P orc F E S o = some (v, S')) : S.next ≤ S'.next := by
  cases hp : isP P o.op
  case true => obtain ⟨e, _⟩ := P_sound hor hp h; rw [e]; exact Nat.le_refl _
  cases hr : isR P o.op
  case true => obtain ⟨e, _⟩ := R_sound (ρ := ρ) hr h; rw [e]; exact Nat.le_refl _
  cases hA : isA P o.op
  case true =>
    rcases A_sound (ρ := ρ) hA h with ⟨e, _⟩ | ⟨B, hB, _⟩
    · rw [e]; exact Nat.le_refl _
    · have := new_next1 hB; omega
  obtain ⟨dst, op, type, pos, after, guard⟩ := o
  have gen : ∀ {r : Option AVal}, (oget r fun v => some (v, S)) = some (v, S') → S.next ≤ S'.next := fun hh => by
    simp only [oget_some] at hh
    obtain ⟨u, hu, e⟩ := hh
    cases e
    exact Nat.le_refl _
  cases op <;> first | (simp [isP] at hp; done) | (simp [isR] at hr; done) | (simp [isA] at hA; done) | (simp only [evOp] at h; exact gen h) | skip
  case store t x y =>
    simp only [evOp, oget_some] at h
    obtain ⟨_, _, _, _, _, _, h⟩ := h
    split at h
    · simp only [oget_some, bsel_none] at h
      obtain ⟨_, _, S1, hs, e⟩ := h
      cases e
      exact Nat.le_of_eq (stores_next hs).symm
    · cases h
  case mapUpdate T m k x =>
    simp only [evOp, oget_some] at h
    obtain ⟨_, _, _, _, _, _, _, _, _, _, h⟩ := h
    split at h
    · rw [oget_some] at h
      obtain ⟨B, hB, h⟩ := h
      split at h
      · simp only [oget_some] at h
        obtain ⟨q, hq, S1, hs, e⟩ := h
        cases e
        exact Nat.le_of_eq (setBlk_next hs).symm
      · cases h
    · cases h
  case convert s d x =>
    simp only [evOp] at h
    rw [oget_some] at h
    obtain ⟨u, hu, h⟩ := h
    split at h
    · split at h
      · simp only [oget_some] at h
        obtain ⟨_, _, _, _, e⟩ := h
        cases e; exact Nat.le_refl _
      · exact gen h
    · simp only [oget_some] at h
      obtain ⟨_, _, _, _, e⟩ := h
      cases e; exact Nat.le_refl _
    · rw [bsel_eq] at h
      split at h
      · simp only [oget_some, bsel_none] at h
        obtain ⟨_, _, _, _, _, e⟩ := h
        cases e; exact Nat.le_refl _
      · simp only [oget_some, bsel_none] at h
        obtain ⟨_, _, B, hB, h⟩ := h
        split at h
        · cases h; exact Nat.le_refl _
        · cases h
    · simp only [bsel_none] at h
      obtain ⟨_, _, e⟩ := h
      cases e; exact Nat.le_refl _
    · rw [bsel_eq] at h
      split at h
      · simp only [bsel_none] at h
        obtain ⟨_, e⟩ := h
        cases e; exact Nat.le_refl _
      · simp only [oget_some, bsel_none] at h
        obtain ⟨_, _, q, hq, e⟩ := h
        cases e
        have := new_next1' hq
        omega
    · exact gen h
  case call c =>
    cases hc : c.callee with
    | value f =>
      simp only [evOp, callAny, hc, oget_some] at h
      obtain ⟨fv, _, h⟩ := h
      split at h
      · simp only [oget_some] at h
        obtain ⟨as, _, h⟩ := h
        split at h
        · rw [bsel_eq] at h
          split at h
          · exact (hC _ _ _ _ _ h).1
          · exact gen h
        · cases h
      · cases h
    | invoke r m => simp [evOp, callAny, hc] at h
    | builtin b =>
      cases b <;> first | (simp [isP, hc] at hp; done) | (simp [evOp, callAny, hc] at h; done) | skip
      case append =>
        simp only [evOp, callAny, hc] at h
        split at h
        · simp only [oget_some] at h
          obtain ⟨_, _, _, _, h⟩ := h
          exact aappend_next h
        · cases h
      case copy =>
        simp only [evOp, callAny, hc] at h
        split at h
        · simp only [oget_some, bsel_none] at h
          obtain ⟨_, _, _, _, _, _, _, h⟩ := h
          split at h
          · split at h
            · cases h; exact Nat.le_refl _
            · cases h
          · split at h
            · cases h; exact Nat.le_refl _
            · rw [forceN_eq] at h
              simp only [oget_some, bsel_none] at h
              obtain ⟨_, _, _, S1, hs, e⟩ := h
              cases e
              exact Nat.le_of_eq (stores_next hs).symm
            · cases h
          · cases h
        · cases h

/-! #### slots -/
/-- An activation is as ours. -/
structure AI (ρ : Nat → Int) (μ : Mu) (F : Fr) (E : Env) (a : Act) : Prop where
  ar : AR ρ μ F E a
  size : a.tmps.size = F.n
  defers : a.defers = []

theorem AR.mono {μ' : Mu} (h : AR ρ μ F E a) (hm : ∀ b m, μ b = some m → μ' b = some m) : AR ρ μ' F E a := fun t v ht => (h t v ht).mono hm
theorem AI.mono {μ' : Mu} (h : AI ρ μ F E a) (hm : ∀ b m, μ b = some m → μ' b = some m) : AI ρ μ' F E a := ⟨h.ar.mono hm, h.size, h.defers⟩
theorem lk_cons (d : Nat) (v : AVal) (t : Nat) : lk F t ((d, v) :: E) = if d = t then some v else lk F t E := by
  show bsel (Nat.beq d t) (some v) (lk F t E) = _
  rw [bsel_eq]
  by_cases h : d = t
  · subst h; simp
  · rw [if_neg h, if_neg (by simpa using h)]
theorem getD_put_same {a : Act} {d : Nat} {x : Value} (h : d < a.tmps.size) : (a.put (some d) x).tmps.getD d undef = x := by simp [Act.put, h]
theorem getD_put_other {a : Act} {d t : Nat} {x : Value} (h : d ≠ t) : (a.put (some d) x).tmps.getD t undef = a.tmps.getD t undef := by
  simp [Act.put, Array.getElem?_setIfInBounds_ne h]
theorem AI.put {d : Nat} {v : AVal} {x : Value} (h : AI ρ μ F E a) (hd : d < F.n) (hv : VR ρ μ v x) : AI ρ μ F ((d, v) :: E) (a.put (some d) x) where
  ar := fun t u ht => by
    rw [lk_cons] at ht
    by_cases e : d = t
    · subst e; rw [if_pos rfl] at ht; cases ht
      rw [getD_put_same (by rw [h.size]; exact hd)]; exact hv
    · rw [if_neg e] at ht
      rw [getD_put_other e]; exact h.ar t u ht
  size := by simp only [Act.put, Array.size_setIfInBounds]; exact h.size
  defers := h.defers
theorem AI.put_none {x : Value} (h : AI ρ μ F E a) : AI ρ μ F E (a.put none x) := h

/-- Only slots that are kept are held. -/
def FK (keep : Nat) (F : Fr) : Prop := ∀ t v, F.get t = some v → bsel (Nat.beq (Nat.land (Nat.shiftRight keep t) 1) 1) true false = true
theorem Fr.get_put {d : Nat} {v : AVal} (h : F.put d v = some F') : F'.n = F.n ∧ ∀ t, F'.get t = if d = t then some v else F.get t := by
  rw [Fr.put_eq] at h
  split at h
  · cases h; exact ⟨rfl, fun t => Tr.get_set _ _ _ _⟩
  · cases h
theorem putAll_get {keep : Nat} (hk : FK keep F) : ∀ {E : Env} {F' : Fr}, putAll keep F E = some F' → FK keep F' ∧ F'.n = F.n ∧ ∀ t v, F'.get t = some v → lk F t E = some v
  | [], F', h => by cases h; exact ⟨hk, rfl, fun t v h => h⟩
  | (d, v) :: E, F', h => by
    simp only [putAll, oget_some] at h
    obtain ⟨F1, h1, h⟩ := h
    obtain ⟨k1, k2, k3⟩ := putAll_get hk h1
    rw [bsel_eq] at h
    split at h
    · rename_i hb
      obtain ⟨g1, g2⟩ := Fr.get_put h
      refine ⟨fun t u hu => ?_, by rw [g1, k2], fun t u hu => ?_⟩
      · rw [g2] at hu
        by_cases e : d = t
        · subst e; rw [hb]; rfl
        · rw [if_neg e] at hu; exact k1 t u hu
      · rw [g2] at hu
        rw [lk_cons]
        by_cases e : d = t
        · rw [if_pos e] at hu ⊢; exact hu
        · rw [if_neg e] at hu ⊢; exact k3 t u hu
    · rename_i hb
      cases h
      refine ⟨k1, k2, fun t u hu => ?_⟩
      rw [lk_cons]
      by_cases e : d = t
      · subst e
        have := k1 _ _ hu
        rw [bsel_eq, if_neg hb] at this
        cases this
      · rw [if_neg e]; exact k3 t u hu
theorem AI.putAll {keep : Nat} (h : AI ρ μ F E a) (hk : FK keep F) (hp : putAll keep F E = some F') : AI ρ μ F' [] a ∧ FK keep F' := by
  obtain ⟨k1, k2, k3⟩ := putAll_get hk hp
  exact ⟨⟨fun t v ht => h.ar t v (k3 t v ht), by rw [k2]; exact h.size, h.defers⟩, k1⟩

/-! #### regions -/
theorem wanted_sound' (hor : ∀ c b, orc c = some b → c.den ρ = b) {ops : Array Oper} {o : Oper} {b : Bool} (h : wantedA orc ops F E o = some b)
    (ha : ∀ j want g d v, o.guard = some (j, want) → ops[j]? = some g → g.dst = some d → lk F d E = some v → VR ρ μ v (a.tmps.getD d undef)) : Region.wanted o (yielded ops a.tmps) = b := by
  unfold wantedA at h
  unfold Region.wanted
  split at h
  · rename_i hg
    cases h
    rw [hg]
  · rename_i j want hg
    simp only [oget_some] at h
    obtain ⟨g, hgj, d, hd, v, hv, h⟩ := h
    rw [hg]
    have hx := ha j want g d v hg hgj hd hv
    have hy1 : a.tmps[d]? = none → yielded ops a.tmps j = none := fun e => by unfold yielded; simp [hgj, hd, e]
    have hy2 : ∀ b, a.tmps[d]? = some (.bool b) → yielded ops a.tmps j = some b := fun b e => by unfold yielded; simp [hgj, hd, e]
    have hy3 : ∀ l, a.tmps[d]? = some (.tuple l) → yielded ops a.tmps j = none := fun b e => by unfold yielded; simp [hgj, hd, e]
    show (yielded ops a.tmps j == some want) = b
    rw [Array.getD_eq_getD_getElem?] at hx
    split at h
    · cases h
      cases e : a.tmps[d]? with
      | none => rw [hy1 e]; rfl
      | some x =>
        rw [e] at hx
        simp only [Option.getD_some] at hx
        cases hx
        rw [hy3 _ e]; rfl
    · simp only [oget_some] at h
      obtain ⟨t, ht, h⟩ := h
      have := truth_sound hor ht hx
      cases e : a.tmps[d]? with
      | none => rw [e] at this; cases this
      | some x =>
        rw [e] at this
        simp only [Option.getD_some] at this
        subst this
        rw [hy2 _ e]
        cases h
        cases t <;> cases want <;> rfl

theorem wanted_sound (hor : ∀ c b, orc c = some b → c.den ρ = b) {ops : Array Oper} {o : Oper} {b : Bool} (h : wantedA orc ops F E o = some b) (ha : AR ρ μ F E a) : Region.wanted o (yielded ops a.tmps) = b :=
  wanted_sound' hor h fun _ _ _ d v _ _ _ hv => ha d v hv

theorem evOps_next (hC : HandlerOK P ρ C) (hor : ∀ c b, orc c = some b → c.den ρ = b) {ops : Array Oper} : ∀ {l : List Oper} {E E' : Env} {S S' : St}, evOps C P orc ops F l E S = some (E', S') → S.next ≤ S'.next
  | [], E, E', S, S', h => by cases h; exact Nat.le_refl _
  | o :: l, E, E', S, S', h => by
    simp only [evOps, oget_some] at h
    obtain ⟨b, hb, h⟩ := h
    cases b
    · simp only [bsel_false] at h
      split at h
      · rw [bsel_none] at h; exact evOps_next hC hor h.2
      · exact evOps_next hC hor h
    · simp only [bsel_true, oget_some] at h
      obtain ⟨q, hq, h⟩ := h
      obtain ⟨v, S1⟩ := q
      have h1 := evOp_next hC hor hq
      split at h
      · rw [bsel_none] at h; exact Nat.le_trans h1 (evOps_next hC hor h.2)
      · exact Nat.le_trans h1 (evOps_next hC hor h)

theorem evOps_sound (hC : HandlerOK P ρ C) (hor : ∀ c b, orc c = some b → c.den ρ = b) {ops : Array Oper} {Q : Exit → Act → World → Prop} : ∀ (l : List Oper) (i : Nat), ops.toList.drop i = l → ∀ {E E' : Env} {S S' : St} {μ : Mu} {a : Act} {w : World},
    evOps C P orc ops F l E S = some (E', S') → AI ρ μ F E a → HR ρ μ S w → Fresh μ S S' → (∀ μ' a' w', AI ρ μ' F E' a' → Step ρ μ S w μ' S' w' → Q .normal a' w') → wpOps P ops Q (List.range' i (ops.size - i)) a w
  | [], i, hl, E, E', S, S', μ, a, w, h, ha, hm, hf, hK => by
    have : ops.size ≤ i := by
      have := congrArg List.length hl
      simp at this; omega
    rw [show ops.size - i = 0 by omega]
    cases h
    exact hK _ _ _ ha (.refl hm)
  | o :: l, i, hl, E, E', S, S', μ, a, w, h, ha, hm, hf, hK => by
    have hlen : i < ops.size := by
      rcases Nat.lt_or_ge i ops.size with h | h
      · exact h
      · rw [List.drop_eq_nil_of_le (by simpa using h)] at hl; cases hl
    have hi : ops[i]? = some o := by
      have : (ops.toList.drop i)[0]? = some o := by rw [hl]; rfl
      rw [List.getElem?_drop] at this
      simpa using this
    have hl' : ops.toList.drop (i + 1) = l := by rw [← List.drop_drop, hl]; rfl
    rw [show ops.size - i = (ops.size - (i + 1)) + 1 by omega, List.range'_succ]
    simp only [wpOps, hi]
    simp only [evOps, oget_some] at h
    obtain ⟨b, hb, h⟩ := h
    rw [wanted_sound hor hb ha.ar]
    cases b
    · simp only [bsel_false] at h
      simp only [Bool.false_eq_true, if_false]
      split at h
      · rename_i d hd
        rw [bsel_none] at h
        obtain ⟨hdn, h⟩ := h
        rw [hd]
        exact evOps_sound hC hor l (i + 1) hl' h (ha.put ((blt_eq _ _).1 hdn) undef_VR) hm hf hK
      · rename_i hd
        rw [hd]
        exact evOps_sound hC hor l (i + 1) hl' h ha hm hf hK
    · simp only [bsel_true, oget_some] at h
      simp only [if_true]
      obtain ⟨⟨v, S1⟩, hq, h⟩ := h
      have h1 := evOp_next hC hor hq
      left
      split at h
      · rename_i d hd
        rw [bsel_none] at h
        obtain ⟨hdn, h⟩ := h
        have h2 := evOps_next hC hor h
        refine op_sound hC hor hq ha.ar hm (hf.left h1 h2) fun μ' x w' hx hs => ?_
        rw [hd]
        exact evOps_sound hC hor l (i + 1) hl' h ((ha.mono hs.mono).put ((blt_eq _ _).1 hdn) hx) hs.hr (hf.right hs) fun μ'' a' w'' h3 h4 => hK _ _ _ h3 (hs.trans h4)
      · rename_i hd
        have h2 := evOps_next hC hor h
        refine op_sound hC hor hq ha.ar hm (hf.left h1 h2) fun μ' x w' hx hs => ?_
        rw [hd]
        exact evOps_sound hC hor l (i + 1) hl' h (ha.mono hs.mono) hs.hr (hf.right hs) fun μ'' a' w'' h3 h4 => hK _ _ _ h3 (hs.trans h4)
end
end Go.Abs
