/- Calls: sound. -/
import Derived.Test.YtmppkccbjmeihaaGreatAb24
namespace Go.Abs
set_option autoImplicit true
set_option relaxedAutoImplicit true
set_option linter.unusedVariables false
set_option linter.unusedSimpArgs false
set_option linter.unusedSectionVars false
open Go.RowKit

section
variable {P : Program} {ρ : Nat → Int} {B : Handler} {orc : SB → Option Bool}

theorem initFr_get (keep n : Nat) : ∀ (l : List AVal) (i : Nat) (t : Tr AVal) (j : Nat) (v : AVal), (initFr keep n i l t).get j = some v →
    t.get j = some v ∨ (bsel (Nat.beq (Nat.land (Nat.shiftRight keep j) 1) 1) true false = true ∧ i ≤ j ∧ l[j - i]? = some v)
  | [], i, t, j, v, h => .inl h
  | x :: l, i, t, j, v, h => by
    simp only [initFr] at h
    rcases initFr_get keep n l (i + 1) _ j v h with h | ⟨h1, h2, h3⟩
    · rw [bsel_eq] at h
      split at h
      · rename_i hb
        rw [Tr.get_set] at h
        by_cases e : i = j
        · subst e
          rw [if_pos rfl] at h
          cases h
          exact .inr ⟨by rw [hb]; rfl, Nat.le_refl _, by simp⟩
        · rw [if_neg e] at h; exact .inl h
      · exact .inl h
    · refine .inr ⟨h1, by omega, ?_⟩
      rw [show j - i = (j - (i + 1)) + 1 by omega]
      simpa using h3

theorem AI.init {keep n : Nat} {args : List AVal} {vs : List Value} {μ : Mu} (h : VRs ρ μ args vs) (hn : args.length ≤ n) :
    FK keep ⟨n, initFr keep n 0 args .leaf⟩ ∧ AI ρ μ ⟨n, initFr keep n 0 args .leaf⟩ [] { tmps := vs.toArray ++ Array.replicate (n - vs.toArray.size) undef, defers := [] } := by
  have hg : ∀ t v, (initFr keep n 0 args .leaf).get t = some v → bsel (Nat.beq (Nat.land (Nat.shiftRight keep t) 1) 1) true false = true ∧ args[t]? = some v := fun t v hv => by
    rcases initFr_get keep n args 0 .leaf t v hv with h | ⟨h1, _, h3⟩
    · rw [Tr.get_leaf] at h; cases h
    · exact ⟨h1, by simpa using h3⟩
  have hl := h.length
  refine ⟨fun t v hv => (hg t v hv).1, fun t v hv => ?_, by simp; omega, rfl⟩
  obtain ⟨x, hx, hr⟩ := h.get (hg t v hv).2
  have hlt := (List.getElem?_eq_some_iff.1 hx).1
  have e : (vs.toArray ++ Array.replicate (n - vs.toArray.size) undef).getD t undef = x := by
    have e1 : (vs.toArray ++ Array.replicate (n - vs.toArray.size) undef)[t]? = some x := by
      rw [Array.getElem?_append_left (by simpa using hlt)]
      simpa using hx
    rw [Array.getD_eq_getD_getElem?, e1]; rfl
  rw [e]
  exact hr

/-- Calls are as ours. -/
theorem callN_sound (hmix : P.follows .mixedOrders = true) (hB : HandlerOK P ρ B) (hor : ∀ c b, orc c = some b → c.den ρ = b) {T : FuncId → Option AFun} (hT : ∀ f A, T f = some A → FunOK P f A) (fuel : Nat) :
    ∀ d, HandlerOK P ρ (callN P orc B T fuel d)
  | 0 => hB
  | d + 1 => fun f args S v S' h => by
    have ih := callN_sound hmix hB hor hT fuel d
    simp only [callN] at h
    split at h
    · exact hB f args S v S' h
    · rename_i A hA
      obtain ⟨k1, k3, k4⟩ := hT f A hA
      simp only [bsel_none, oget_some] at h
      obtain ⟨hle, body, k2, ⟨x, F', S1⟩, hev, h⟩ := h
      rw [k2] at k3
      have hle := Nat.le_of_ble_eq_true hle
      obtain ⟨n1, hrun⟩ := evC_sound hmix ih hor fuel body _ S x F' S1 k3 hev
      have fin : (oget (resAll P F' S1 A.fn.results.toList) fun vs => some (oneOr vs, S1)) = some (v, S') → (∀ (R : Ending → World → Prop) a w, (a.defers = [] ∧ ∃ v, (results A.fn a.tmps).run P w = .ok v w ∧ R (.returned v) w) → bodyPost P A.fn R (toE x) a w) →
          S.next ≤ S'.next ∧ (∀ args w, (callFunc f args).run P w = .ok (.enter f args) w) ∧
            ∀ μ vs w, VRs ρ μ args vs → HR ρ μ S w → Fresh μ S S' → Calls P f vs.toArray w fun e w' => ∃ v' μ', e = .returned v' ∧ VR ρ μ' v v' ∧ Step ρ μ S w μ' S' w' := fun hres hpost => by
        simp only [oget_some] at hres
        obtain ⟨vs, hvs, e⟩ := hres
        cases e
        refine ⟨n1, k4, fun μ xs w hxs hm hf => ?_⟩
        obtain ⟨hfk, hai⟩ := AI.init (keep := A.info.keep) (n := A.fn.ntmps) hxs hle
        refine calls_of_wp k1 k2 ((hrun hfk).2 μ _ w _ hai hm hf fun μ' a' w' g1 g2 => ?_).1
        obtain ⟨y, hy, hr⟩ := results_sound hvs g1 g2.hr
        exact hpost _ _ _ ⟨g1.defers, y, hr, y, μ', rfl, hy, g2⟩
      cases x
      case exit id => simp only at h; cases h
      case normal => exact fin h fun R a w hh => hh
      case ret => exact fin h fun R a w hh => hh

theorem none_sound : HandlerOK P ρ fun _ _ _ => none := fun f as S v S' h => by cases h

/-- A memory with nothing in it of ours. -/
theorem HR.empty (w : World) : HR ρ (fun _ => none) ⟨.leaf, 0⟩ w where
  cells := fun b n d t m h => by cases h
  maps := fun b es cl m h => by cases h
  inj := fun b b' m m' ⟨h, _⟩ => by cases h
  wf := fun b _ => rfl
end
end Go.Abs
