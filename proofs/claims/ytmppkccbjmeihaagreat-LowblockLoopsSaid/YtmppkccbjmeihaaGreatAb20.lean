/- Regions whose order is open: every order comes to what ours comes to. -/
import Derived.Test.YtmppkccbjmeihaaGreatAb19
namespace Go.Abs
set_option autoImplicit true
set_option relaxedAutoImplicit true
set_option linter.unusedVariables false
set_option linter.unusedSimpArgs false
set_option linter.unusedSectionVars false
open Go.RowKit

section
variable {P : Program} {ρ : Nat → Int} {F : Fr} {C : Handler} {orc : SB → Option Bool} {ops : Array Oper}

/-- One step of our run. -/
theorem evD1_eq {it : Item} {q q' : Env × St × List St} {o : Oper} (h : evD1 C P orc ops F it q = some q') (ho : ops[it.i]? = some o) :
    ∃ wd v, wantedA orc ops F q.1 o = some wd ∧ (bsel wd (evItem C P orc F it o q.1 q.2.1 q.2.2) (some (.tuple [], q.2.1))) = some (v, q'.2.1) ∧
      (q'.1 = match o.dst with | some d => (d, v) :: q.1 | none => q.1) ∧ (∀ d, o.dst = some d → d < F.n) ∧ q'.2.2 = (if isE it = true then q'.2.1 :: q.2.2 else q.2.2) := by
  simp only [evD1, oget_some] at h
  obtain ⟨o', ho', wd, hw, r, hr, E, hE, e⟩ := h
  rw [ho] at ho'
  cases ho'
  cases e
  obtain ⟨v, S'⟩ := r
  refine ⟨wd, v, hw, hr, ?_, ?_, ?_⟩
  · unfold pushE at hE
    cases hd : o.dst with
    | none => rw [hd] at hE; cases hE; rfl
    | some d =>
      rw [hd] at hE
      simp only [bsel_none] at hE
      obtain ⟨_, e⟩ := hE
      cases e; rfl
  · intro d hd
    unfold pushE at hE
    rw [hd] at hE
    simp only [bsel_none] at hE
    exact (blt_eq _ _).1 hE.1
  · show bsel (Nat.beq it.cls 3) (S' :: q.2.2) q.2.2 = _
    rw [bsel_eq]; rfl

theorem looksM_sound {b : Nat} : ∀ {Hs : List St} {n : Nat}, looksM b Hs n = some () → ∀ (c : Nat) (H : St), c ≤ n → Hs[c]? = some H → H.next ≤ b ∨ ∃ n d t, H.blk b = some (.cells n d t)
  | [], _, h, c, H, _, hl => by simp at hl
  | H0 :: l, n, h, c, H, hc, hl => by
    have ok : ∀ H, okIn b H = some () → H.next ≤ b ∨ ∃ n d t, H.blk b = some (.cells n d t) := fun H h => by
      unfold okIn at h
      rw [bsel_eq] at h
      split at h
      · rename_i hb; exact .inl (Nat.le_of_ble_eq_true hb)
      · exact .inr (alive_eq h)
    cases n with
    | zero =>
      have : c = 0 := by omega
      subst this
      simp at hl
      subst hl
      exact ok _ h
    | succ n =>
      simp only [looksM, oget_some] at h
      obtain ⟨_, h1, h2⟩ := h
      cases c with
      | zero => simp at hl; subst hl; exact ok _ h1
      | succ c => exact looksM_sound h2 c H (by omega) (by simpa using hl)
theorem markA_eq {E : Env} {S S' : St} {Hs : List St} {lo : Nat} {o : Oper} {v : AVal} (h : markA P F E S Hs lo o = some (v, S')) :
    S' = S ∧ ∃ s x b i len cap opn, o.op = .convert s s x ∧ isU8 P s = true ∧ evo F E x = some v ∧ v = .slice (some (b, i)) len cap opn ∧ b < S.next ∧ looksM b Hs lo = some () := by
  unfold markA at h
  split at h
  · rename_i s d x hop
    rw [oget_some] at h
    obtain ⟨u, hu, h⟩ := h
    split at h
    · simp only [oget_some, bsel_none] at h
      obtain ⟨h1, h2, h3, _, h4, e⟩ := h
      cases e
      have h1 := Nat.eq_of_beq_eq_true h1
      subst h1
      exact ⟨rfl, s, x, _, _, _, _, _, hop, h2, hu, rfl, (blt_eq _ _).1 h3, h4⟩
    · cases h
  · cases h

/-- What our run is, and what it starts from. -/
structure Ran (P : Program) (ρ : Nat → Int) (F : Fr) (C : Handler) (orc : SB → Option Bool) (ops : Array Oper) (its : List Item) (anc : Nat → Nat → Prop) (T : Nat → Env × St × List St) (S0 : St) : Prop where
  hC : HandlerOK P ρ C
  hor : ∀ c b, orc c = some b → c.den ρ = b
  plan : Plan P ops its anc
  start : T 0 = ([], S0, [S0])
  step : ∀ p it, its[p]? = some it → evD1 C P orc ops F it (T p) = some (T (p + 1))

section
variable {its : List Item} {anc : Nat → Nat → Prop} {T : Nat → Env × St × List St} {S0 : St} (R : Ran P ρ F C orc ops its anc T S0)
include R

theorem Ran.next1 {p : Nat} {it : Item} (hp : its[p]? = some it) : (T p).2.1.next ≤ (T (p + 1)).2.1.next := by
  obtain ⟨o, ho⟩ := R.plan.op p it hp
  obtain ⟨wd, v, h1, h2, _⟩ := evD1_eq (R.step p it hp) ho
  cases wd
  · simp only [bsel_false, Option.some.injEq, Prod.mk.injEq] at h2; exact Nat.le_of_eq (congrArg St.next h2.2)
  · simp only [bsel_true, evItem] at h2
    rw [bsel_eq] at h2
    split at h2
    · split at h2
      · simp only [oget_some] at h2
        obtain ⟨_, _, _, _, e⟩ := h2
        simp only [Option.some.injEq, Prod.mk.injEq] at e
        exact Nat.le_of_eq (congrArg St.next e.2)
      · cases h2
    · rw [bsel_eq] at h2
      split at h2
      · exact Nat.le_of_eq (congrArg St.next (markA_eq h2).1.symm)
      simp only [oget_some] at h2
      obtain ⟨q, hq, h2⟩ := h2
      rw [bsel_eq] at h2
      split at h2
      · simp only [Option.some.injEq, Prod.mk.injEq] at h2
        exact Nat.le_of_eq (congrArg St.next h2.2)
      · obtain ⟨v', S'⟩ := q
        simp only [Option.some.injEq, Prod.mk.injEq] at h2
        rw [← h2.2]
        exact evOp_next R.hC R.hor hq
theorem Ran.nextAll {p : Nat} : ∀ k, p + k ≤ its.length → (T p).2.1.next ≤ (T (p + k)).2.1.next
  | 0, _ => Nat.le_refl _
  | k + 1, h => by
    have h1 := Ran.nextAll (p := p) k (by omega)
    have hlt : p + k < its.length := by omega
    have h2 := R.next1 (List.getElem?_eq_getElem hlt)
    exact Nat.le_trans h1 h2
theorem Ran.nextLe {p q : Nat} (h : p ≤ q) (hq : q ≤ its.length) : (T p).2.1.next ≤ (T q).2.1.next := by
  obtain ⟨k, rfl⟩ : ∃ k, q = p + k := ⟨q - p, by omega⟩
  exact R.nextAll k hq

/-- A slot that none writes from here on. -/
theorem Ran.keeps {t p : Nat} : ∀ k, p + k ≤ its.length → (∀ r it o, p ≤ r → r < p + k → its[r]? = some it → ops[it.i]? = some o → o.dst ≠ some t) → lk F t (T (p + k)).1 = lk F t (T p).1
  | 0, _, _ => rfl
  | k + 1, h, hn => by
    have ih := Ran.keeps (t := t) (p := p) k (by omega) fun r it o h1 h2 => hn r it o h1 (by omega)
    have hlt : p + k < its.length := by omega
    have hp := List.getElem?_eq_getElem hlt
    obtain ⟨o, ho⟩ := R.plan.op _ _ hp
    obtain ⟨wd, v, _, _, h3, _⟩ := evD1_eq (R.step _ _ hp) ho
    rw [← ih, show p + (k + 1) = p + k + 1 by omega, h3]
    have := hn (p + k) _ o (by omega) (by omega) hp ho
    cases hd : o.dst with
    | none => rfl
    | some d =>
      simp only
      rw [lk_cons, if_neg (fun e => this (by rw [hd, e]))]
/-- What is written before is what it is in the end. -/
theorem Ran.operand {p : Nat} {t : Nat} (hpl : p ≤ its.length) (hb : ∀ r it o, its[r]? = some it → ops[it.i]? = some o → o.dst = some t → r < p) : lk F t (T its.length).1 = lk F t (T p).1 := by
  obtain ⟨k, hk⟩ : ∃ k, its.length = p + k := ⟨its.length - p, by omega⟩
  rw [hk]
  refine R.keeps k (by omega) fun r it' o' h1 h2 hr ho' hd => ?_
  have := hb r it' o' hr ho' hd
  omega
/-- What is written later is as it was. -/
theorem Ran.old {p : Nat} {t : Nat} (hpl : p ≤ its.length) (hb : ∀ r it o, its[r]? = some it → ops[it.i]? = some o → o.dst = some t → p ≤ r) : lk F t (T p).1 = F.get t := by
  have h := R.keeps (t := t) (p := 0) p (by omega) fun r it' o' h1 h2 hr ho' hd => by
    have := hb r it' o' hr ho' hd
    omega
  rw [Nat.zero_add, R.start] at h
  exact h
theorem Ran.result {p : Nat} {it : Item} {o : Oper} (hp : its[p]? = some it) (ho : ops[it.i]? = some o) {d : Nat} (hd : o.dst = some d) {v : AVal} (hv : (T (p + 1)).1 = (d, v) :: (T p).1) : lk F d (T its.length).1 = some v := by
  have hlt := (List.getElem?_eq_some_iff.1 hp).1
  obtain ⟨k, hk⟩ : ∃ k, its.length = p + 1 + k := ⟨its.length - (p + 1), by omega⟩
  rw [hk, R.keeps k (by omega) fun r it' o' h1 h2 hr ho' hd' => ?_, hv, lk_cons, if_pos rfl]
  have := R.plan.dst p r it it' o o' d hp hr ho ho' hd hd'
  omega

/-- The memories in which a read is looked at: behind q, c orders of the third kind on. -/
theorem Ran.hist {q : Nat} (hq : q = 0 ∨ ∃ it, its[q - 1]? = some it ∧ it.cls = 3) : ∀ k, q + k ≤ its.length → (T (q + k)).2.2[((its.drop q).take k).countP isE]? = some (T q).2.1
  | 0, h => by
    simp only [List.take_zero, List.countP_nil, Nat.add_zero]
    rcases hq with rfl | ⟨it, hit, hc⟩
    · rw [R.start]; rfl
    · cases q with
      | zero => rw [R.start]; rfl
      | succ q =>
        simp only [Nat.add_sub_cancel] at hit
        obtain ⟨o, ho⟩ := R.plan.op _ _ hit
        obtain ⟨wd, v, _, _, _, _, h4⟩ := evD1_eq (R.step _ _ hit) ho
        rw [h4, if_pos (by unfold isE; rw [hc]; rfl)]
        rfl
  | k + 1, h => by
    have ih := Ran.hist hq k (by omega)
    have hlt : q + k < its.length := by omega
    have hp := List.getElem?_eq_getElem hlt
    obtain ⟨o, ho⟩ := R.plan.op _ _ hp
    obtain ⟨wd, v, _, _, _, _, h4⟩ := evD1_eq (R.step _ _ hp) ho
    have e : (its.drop q).take (k + 1) = (its.drop q).take k ++ [its[q + k]] := by
      rw [List.take_add_one, List.getElem?_drop, hp]; rfl
    rw [e, List.countP_append, show q + (k + 1) = q + k + 1 by omega, h4]
    by_cases hE : isE its[q + k] = true
    · rw [if_pos hE]
      have : List.countP isE [its[q + k]] = 1 := by simp [hE]
      rw [this, List.getElem?_cons_succ]
      exact ih
    · rw [if_neg hE]
      have : List.countP isE [its[q + k]] = 0 := by simp [hE]
      rw [this]
      exact ih
end

theorem first_E : ∀ (l : List Item) (k : Nat), 0 < (l.take k).countP isE → ∃ j it, j < k ∧ l[j]? = some it ∧ isE it = true ∧ (l.take k).countP isE = 1 + ((l.drop (j + 1)).take (k - (j + 1))).countP isE
  | [], k, h => by simp at h
  | x :: l, 0, h => by simp at h
  | x :: l, k + 1, h => by
    by_cases hx : isE x = true
    · refine ⟨0, x, by omega, rfl, hx, ?_⟩
      simp [List.countP_cons, hx]; omega
    · have h' : 0 < (l.take k).countP isE := by simpa [List.countP_cons, hx] using h
      obtain ⟨j, it, h1, h2, h3, h4⟩ := first_E l k h'
      refine ⟨j + 1, it, by omega, by simpa using h2, h3, ?_⟩
      simp only [List.take_succ_cons, List.countP_cons, hx, List.drop_succ_cons]
      rw [h4, show k + 1 - (j + 1 + 1) = k - (j + 1) by omega]
      simp

/-- Which are listed. -/
def Down (ops : Array Oper) (X : Nat → Prop) : Prop := ∀ i o, ops[i]? = some o → X i → ∀ e ∈ o.after, Region.binds .any e = true → X e.on
theorem anc_listed {its : List Item} {anc : Nat → Nat → Prop} (hp : Plan P ops its anc) {X : Nat → Prop} (hd : Down ops X) : ∀ (i k : Nat), i < ops.size → k < ops.size → anc i k → X i → X k := by
  intro i
  induction i using Nat.strongRecOn with
  | _ i ih =>
    intro k hi hk ha hx
    obtain ⟨o, ho, e, he, hb, h⟩ := hp.anc1 i k hi hk ha
    have h1 := hd i o ho hx e he hb
    have h2 := hp.edge i o ho e he hb
    rcases h with h | h
    · rw [← h]; exact h1
    · exact ih e.on h2 k (by omega) hk h h1
end
end Go.Abs
