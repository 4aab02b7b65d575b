/- All operations; calls. -/
import Derived.Test.YtmppkccbjmeihaaGreatAb15
namespace Go.Abs
set_option autoImplicit true
set_option relaxedAutoImplicit true
set_option linter.unusedVariables false
set_option linter.unusedSimpArgs false
set_option linter.unusedSectionVars false
open Go.RowKit

/-- What is known of the functions that are called. -/
def HandlerOK (P : Program) (ρ : Nat → Int) (C : Handler) : Prop := ∀ f as S v S', C f as S = some (v, S') →
  S.next ≤ S'.next ∧ (∀ args w, (callFunc f args).run P w = .ok (.enter f args) w) ∧
  ∀ μ vs w, VRs ρ μ as vs → HR ρ μ S w → Fresh μ S S' → Calls P f vs.toArray w fun e w' => ∃ v' μ', e = .returned v' ∧ VR ρ μ' v v' ∧ Step ρ μ S w μ' S' w'

section
variable {P : Program} {ρ : Nat → Int} {μ : Mu} {F : Fr} {E : Env} {a : Act} {S S' S₁ : St} {C : Handler} {orc : SB → Option Bool} {w : World}

theorem Did.wp {o : Oper} {v : AVal} (h : Did P ρ μ S w a o v S') {K : Act → World → Prop} {Q : Exit → Act → World → Prop}
    (hK : ∀ μ' x w', VR ρ μ' v x → Step ρ μ S w μ' S' w' → K (a.put o.dst x) w') : o.wp P a w K Q := by
  obtain ⟨μ', x, w', n, h1, h2, h3, h4⟩ := h
  unfold Oper.wp
  rw [h1]
  rcases h2 with rfl | ⟨rfl, rfl⟩
  · exact hK _ _ _ h3 h4
  · exact hK _ _ _ h3 h4

theorem A_did {o : Oper} {v : AVal} (hp : isA P o.op = true) (h : evOp C P orc F E S o = some (v, S')) (ha : AR ρ μ F E a) (hm : HR ρ μ S w) (hf : Fresh μ S S') : Did P ρ μ S w a o v S' := by
  rcases A_sound (ρ := ρ) hp h with ⟨rfl, h1⟩ | ⟨B, hB, h1⟩
  · obtain ⟨x, hx, hw⟩ := h1 ha
    exact ⟨μ, x, w, _, hw w, .inl rfl, hx, .refl hm⟩
  · obtain ⟨ob, m, x, w0, h2, h3, h4, h5, h6⟩ := h1 ha w
    rcases h2 with rfl | rfl
    · obtain ⟨k1, k2, k3⟩ := new_sound hm hB hf h3 h4
      exact ⟨_, x, _, _, h5, .inl rfl, h6 _ (muSet_same _ _) k3.mono, k3⟩
    · obtain ⟨k1, k2, k3⟩ := new_sound (w := w.drew) (hm.of_heap rfl) hB hf h3 h4
      exact ⟨_, x, _, _, h5, .inl rfl, h6 _ (muSet_same _ _) k3.mono, (Step.drew hm).trans k3⟩

theorem call_wp (hC : HandlerOK P ρ C) {c : Call} {f : Operand} (hc : c.callee = .value f) {dst : Option Tmp} {type : TypeId} {pos : String} {after : Array Edge} {guard : Option (Nat × Bool)} {v : AVal}
    (h : evOp C P orc F E S ⟨dst, .call c, type, pos, after, guard⟩ = some (v, S')) (ha : AR ρ μ F E a) (hm : HR ρ μ S w) (hf : Fresh μ S S') {K : Act → World → Prop} {Q : Exit → Act → World → Prop}
    (hK : ∀ μ' x w', VR ρ μ' v x → Step ρ μ S w μ' S' w' → K (a.put dst x) w') : (⟨dst, .call c, type, pos, after, guard⟩ : Oper).wp P a w K Q := by
  have h0 := h
  simp only [evOp, callAny, hc] at h
  rw [oget_some] at h
  obtain ⟨fv, hfv, h⟩ := h
  split at h
  · rename_i fid caps
    rw [oget_some] at h
    obtain ⟨as, has, h⟩ := h
    split at h
    · rename_i fn hfn
      cases hb : fn.body.isSome
      · rw [hb] at h
        simp only [bsel_false, oget_some] at h
        obtain ⟨r, hr, e⟩ := h
        cases e
        obtain ⟨x, hx, hw⟩ := generic_sound hr ha
        exact Did.wp ⟨μ, x, w, _, hw w, .inl rfl, hx, .refl hm⟩ hK
      · rw [hb, bsel_true] at h
        obtain ⟨h1, h2, h3⟩ := hC _ _ _ _ _ h
        have g := evo_sound hfv ha
        have gs := evos_sound has ha
        generalize ef : a.eval f = X at g
        cases g with
        | fn _ _ vs hvs =>
          have hrun : (execOp a.eval ⟨dst, .call c, type, pos, after, guard⟩).run P w = .ok (.enter fid (c.args.map a.eval ++ vs.toArray)) w := by
            have e : (execOp a.eval ⟨dst, .call c, type, pos, after, guard⟩).run P w = (do let d ← resolve a.eval c type; invoke d.target d.args : Sem Next).run P w := rfl
            rw [e]
            simp only [resolve, hc, ef, Deferred.ofValue, Sem.run_bind, Sem.run_pure, Result.andThen_ok, invoke]
            simp [h2]
          unfold Oper.wp
          rw [hrun, Oper.upon_enter]
          have hall := gs.append hvs
          have e2 : (c.args.toList.map a.eval ++ vs).toArray = c.args.map a.eval ++ vs.toArray := by apply Array.ext'; simp
          have := h3 μ _ w hall hm hf
          rw [e2] at this
          refine Calls.mono this fun e w' ⟨v', μ', he, hv, hs⟩ => ?_
          subst he
          exact hK _ _ _ hv hs
    · cases h
  · cases h

/-- An operation: sound. -/
theorem op_sound (hC : HandlerOK P ρ C) (hor : ∀ c b, orc c = some b → c.den ρ = b) {o : Oper} {v : AVal} (h : evOp C P orc F E S o = some (v, S')) (ha : AR ρ μ F E a) (hm : HR ρ μ S w) (hf : Fresh μ S S')
    {K : Act → World → Prop} {Q : Exit → Act → World → Prop} (hK : ∀ μ' x w', VR ρ μ' v x → Step ρ μ S w μ' S' w' → K (a.put o.dst x) w') : o.wp P a w K Q := by
  cases hp : isP P o.op
  case true =>
    obtain ⟨rfl, h1⟩ := P_sound hor hp h
    obtain ⟨x, hx, hw⟩ := h1 ha
    exact Did.wp ⟨μ, x, w, _, hw w, .inl rfl, hx, .refl hm⟩ hK
  cases hr : isR P o.op
  case true =>
    obtain ⟨rfl, h1⟩ := R_sound (ρ := ρ) hr h
    obtain ⟨x, hx, hw⟩ := h1 ha hm
    exact Did.wp ⟨μ, x, w, _, hw, .inl rfl, hx, .refl hm⟩ hK
  cases hA : isA P o.op
  case true => exact (A_did hA h ha hm hf).wp hK
  obtain ⟨dst, op, type, pos, after, guard⟩ := o
  have gen : ∀ {r : Option AVal}, r = generic P F E ⟨dst, op, type, pos, after, guard⟩ → (oget r fun v => some (v, S)) = some (v, S') → (⟨dst, op, type, pos, after, guard⟩ : Oper).wp P a w K Q := fun e hh => by
    subst e
    simp only [oget_some] at hh
    obtain ⟨u, hu, e⟩ := hh
    cases e
    obtain ⟨x, hx, hw⟩ := generic_sound hu ha
    exact Did.wp ⟨μ, x, w, _, hw w, .inl rfl, hx, .refl hm⟩ hK
  cases op <;> first | (simp [isP] at hp; done) | (simp [isR] at hr; done) | (simp [isA] at hA; done) | (simp only [evOp] at h; exact gen rfl h) | skip
  case store t x y => exact (store_did h ha hm).wp hK
  case mapUpdate T m k x => exact (mapUpdate_did h ha hm).wp hK
  case convert s d x =>
    simp only [isP] at hp
    simp only [isR] at hr
    simp only [isA] at hA
    cases e1 : isSliceT P s
    · rw [e1] at hp
      simp only [bsel_false] at hp
      cases e2 : isSliceT P d
      · rw [e2] at hp; cases hp
      · rw [e2] at hp
        cases e3 : isStringT P s
        · rw [e3] at hp; cases hp
        · rw [e3, e2] at hA; cases hA
    · cases e2 : isSliceT P d
      · rw [e1, e2] at hp
        cases e3 : isStringT P d
        · rw [e3] at hp; cases hp
        · rw [e1, e3] at hr; cases hr
      · exact (mark_did e1 e2 h ha hm).wp hK
  case call c =>
    cases hc : c.callee with
    | value f => exact call_wp hC hc h ha hm hf hK
    | invoke r m => simp [evOp, callAny, hc] at h
    | builtin b =>
      cases b <;> first | (simp [isP, hc] at hp; done) | (simp [evOp, callAny, hc] at h; done) | skip
      case append => exact (append_did hc h ha hm hf).wp hK
      case copy => exact (copy_did hc h ha hm).wp hK
end
end Go.Abs
