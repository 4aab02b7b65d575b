/- Regions whose order is open: what holds between. -/
import Derived.Test.YtmppkccbjmeihaaGreatAb20
namespace Go.Abs
set_option autoImplicit true
set_option relaxedAutoImplicit true
set_option linter.unusedVariables false
set_option linter.unusedSimpArgs false
set_option linter.unusedSectionVars false
open Go.RowKit

section
variable {P : Program} {ρ : Nat → Int} {F : Fr} {C : Handler} {orc : SB → Option Bool} {ops : Array Oper}

/-- At p our run makes the block B. -/
def AL (T : Nat → Env × St × List St) (p : Nat) (B : ABlk) : Prop := (T p).2.1.new B = some ((T p).2.1.next, (T (p + 1)).2.1)
theorem AL.next {T : Nat → Env × St × List St} {p : Nat} {B : ABlk} (h : AL T p B) : (T (p + 1)).2.1.next = (T p).2.1.next + 1 := new_next1 h
theorem AL.same {T : Nat → Env × St × List St} {p : Nat} {B B' : ABlk} (h : AL T p B) (h' : AL T p B') : B = B' := by
  unfold AL at h h'
  rw [St.new_eq] at h h'
  have e1 := congrArg (fun o => (Option.map (fun q : Nat × St => q.2.blk (T p).2.1.next) o)) h
  have e2 := congrArg (fun o => (Option.map (fun q : Nat × St => q.2.blk (T p).2.1.next) o)) h'
  simp only [Option.map_some, St.blk_set, if_true] at e1 e2
  rw [← e2] at e1
  simpa using e1

/-- What holds when those of X are done, the last of the third kind just before q. -/
structure DI (ρ : Nat → Int) (F : Fr) (ops : Array Oper) (its : List Item) (T : Nat → Env × St × List St) (μ0 : Mu) (S0 : St) (w0 : World) (X : Nat → Prop) (a : Act) (w : World) (q : Nat) (μ : Mu) : Prop where
  le : q ≤ its.length
  bound : q = 0 ∨ ∃ it, its[q - 1]? = some it ∧ it.cls = 3
  done : ∀ (p : Nat) (it : Item), p < q → its[p]? = some it → X it.i
  later : ∀ (p : Nat) (it : Item), q ≤ p → its[p]? = some it → it.cls = 3 → ¬ X it.i
  hr : HR ρ μ (T q).2.1 w
  size : a.tmps.size = F.n
  defers : a.defers = []
  ar : ∀ t u, (∀ (i : Nat) (o : Oper), ops[i]? = some o → o.dst = some t → X i) → lk F t (T its.length).1 = some u → VR ρ μ u (a.tmps.getD t undef)
  old : ∀ t u, (∀ (i : Nat) (o : Oper), ops[i]? = some o → o.dst = some t → ¬ X i) → F.get t = some u → VR ρ μ u (a.tmps.getD t undef)
  extra : ∀ (p : Nat) (it : Item) (B : ABlk), q ≤ p → its[p]? = some it → X it.i → AL T p B → ∃ m ob, μ (T p).2.1.next = some m ∧ w.heap[m.blk]? = some ob ∧ NewOK ρ μ B ob m ∧ ¬ Owned (T q).2.1 μ m.blk ∧ w0.heap.size ≤ m.blk
  diff : ∀ (p p' : Nat) (it it' : Item) (B B' : ABlk) (m m' : Loc), q ≤ p → q ≤ p' → its[p]? = some it → its[p']? = some it' → X it.i → X it'.i → AL T p B → AL T p' B' → μ (T p).2.1.next = some m → μ (T p').2.1.next = some m' → m.blk = m'.blk → p = p'
  none : ∀ b, (T q).2.1.next ≤ b → b < (T its.length).2.1.next → (∀ (p : Nat) (it : Item) (B : ABlk), q ≤ p → its[p]? = some it → X it.i → AL T p B → b ≠ (T p).2.1.next) → μ b = none
  ext0 : ∀ b, b < S0.next ∨ (T its.length).2.1.next ≤ b → μ b = μ0 b
  mono0 : ∀ b m, μ0 b = some m → μ b = some m
  size0 : w0.heap.size ≤ w.heap.size
  frame0 : ∀ k, k < w0.heap.size → ¬ Owned S0 μ0 k → w.heap[k]? = w0.heap[k]?
  own0 : ∀ k, Owned (T q).2.1 μ k → Owned S0 μ0 k ∨ w0.heap.size ≤ k
  os0 : w.os = w0.os
  tape0 : w.tape = w0.tape
  output0 : w.output = w0.output

section
variable {μ : Mu} {S S' : St} {w : World}
theorem NewOK.mono {μ' : Mu} {B : ABlk} {ob : Obj} {m : Loc} (h : NewOK ρ μ B ob m) (hm : ∀ b m, μ b = some m → μ' b = some m) : NewOK ρ μ' B ob m := by
  cases B with
  | cells n d t =>
    obtain ⟨h1, h2, arr, T, lo, hi, h3, h4, h5, h6⟩ := h
    exact ⟨h1, h2, arr, T, lo, hi, h3, h4, h5, fun i v hv => let ⟨x, hx, hr⟩ := h6 i v hv; ⟨x, hx, hr.mono hm⟩⟩
  | amap es cl => exact h
  | dead => exact h

/-- A block that was there before its time is taken in. -/
theorem absorb (h : HR ρ μ S w) {B : ABlk} {m : Loc} {ob : Obj} (hn : S.new B = some (S.next, S')) (hm : μ S.next = some m) (ho : w.heap[m.blk]? = some ob) (hok : NewOK ρ μ B ob m) (hown : ¬ Owned S μ m.blk) :
    HR ρ μ S' w ∧ ∀ k, Owned S' μ k → Owned S μ k ∨ k = m.blk := by
  rw [St.new_eq] at hn
  cases hn
  have hO : ∀ c m', Owns ⟨S.heap.set S.next B, S.next + 1⟩ μ c m' → (c = S.next ∧ m' = m) ∨ (c ≠ S.next ∧ Owns S μ c m') := fun c m' ⟨h1, X, h2, h3⟩ => by
    rw [St.blk_set] at h2
    by_cases e : c = S.next
    · subst e; rw [hm] at h1; cases h1; exact .inl ⟨rfl, rfl⟩
    · rw [if_neg (fun h => e h.symm)] at h2; exact .inr ⟨e, h1, X, h2, h3⟩
  refine ⟨⟨fun c n d t m' hc hm' => ?_, fun c es cl m' hc hm' => ?_, fun c c' m1 m2 h1 h2 e => ?_, fun c hc => ?_⟩, fun k ⟨c, m', h1, e⟩ => ?_⟩
  · rw [St.blk_set] at hc
    by_cases e : S.next = c
    · subst e
      rw [if_pos rfl] at hc
      cases hc
      rw [hm] at hm'
      cases hm'
      obtain ⟨q1, q3, arr, T, lo, hi, q4, q5, q6, q7⟩ := hok
      subst q4
      refine ⟨q3, ⟨arr, T, lo, hi, ho, q5, by omega⟩, fun i v hv => ?_⟩
      obtain ⟨x, hx, hr⟩ := q7 i v hv
      exact ⟨x, by simp only [World.cell?, ho, q1, Nat.zero_add]; exact hx, hr⟩
    · rw [if_neg e] at hc
      exact h.cells c n d t m' hc hm'
  · rw [St.blk_set] at hc
    by_cases e : S.next = c
    · subst e
      rw [if_pos rfl] at hc
      cases hc
      rw [hm] at hm'
      cases hm'
      have q : ob = .map es cl := hok
      rw [ho, q]
    · rw [if_neg e] at hc
      exact h.maps c es cl m' hc hm'
  · rcases hO _ _ h1 with ⟨rfl, rfl⟩ | ⟨g1, g2⟩ <;> rcases hO _ _ h2 with ⟨e2, e3⟩ | ⟨g3, g4⟩
    · exact e2.symm
    · exact absurd ⟨c', m2, g4, e.symm⟩ hown
    · subst e3; exact absurd ⟨c, m1, g2, e⟩ hown
    · exact h.inj _ _ _ _ g2 g4 e
  · have hc' : S.next + 1 ≤ c := hc
    rw [St.blk_set, if_neg (by omega)]; exact h.wf c (by omega)
  · rcases hO _ _ h1 with ⟨rfl, rfl⟩ | ⟨_, g⟩
    · exact .inr e.symm
    · exact .inl ⟨c, m', g, e⟩
end

section
variable {its : List Item} {anc : Nat → Nat → Prop} {T : Nat → Env × St × List St} {S0 : St} (R : Ran P ρ F C orc ops its anc T S0)
include R

/-- An operation that is not of the third kind: the memory is as before, or a block is new. -/
theorem Ran.pure {p : Nat} {it : Item} (hp : its[p]? = some it) (hc : it.cls ≠ 3) : (T (p + 1)).2.1 = (T p).2.1 ∨ ∃ B, AL T p B := by
  obtain ⟨o, ho⟩ := R.plan.op p it hp
  obtain ⟨wd, v, h1, h2, _⟩ := evD1_eq (R.step p it hp) ho
  cases wd
  · simp only [bsel_false, Option.some.injEq, Prod.mk.injEq] at h2; exact .inl h2.2.symm
  · simp only [bsel_true, evItem] at h2
    rcases R.plan.cls p it o hp ho with ⟨hc0, hk⟩ | ⟨hc1, hk⟩ | ⟨hc2, hk⟩ | h3 | h4
    · rw [hc0] at h2
      have e1 : Nat.beq 0 1 = false := rfl
      have e2 : Nat.beq 0 0 = true := rfl
      have e3 : Nat.beq 0 4 = false := rfl
      simp only [e1, e2, e3, bsel_false, bsel_true, oget_some, Option.some.injEq, Prod.mk.injEq] at h2
      obtain ⟨q, hq, _, e⟩ := h2
      exact .inl e.symm
    · rw [hc1] at h2
      have e1 : Nat.beq 1 1 = true := rfl
      simp only [e1, bsel_true] at h2
      split at h2
      · simp only [oget_some, Option.some.injEq, Prod.mk.injEq] at h2
        obtain ⟨_, _, _, _, _, e⟩ := h2
        exact .inl e.symm
      · cases h2
    · rw [hc2] at h2
      have e1 : Nat.beq 2 1 = false := rfl
      have e2 : Nat.beq 2 0 = false := rfl
      have e3 : Nat.beq 2 4 = false := rfl
      simp only [e1, e2, e3, bsel_false, oget_some, Option.some.injEq] at h2
      obtain ⟨q, hq, e⟩ := h2
      subst e
      rcases A_sound (ρ := ρ) hk hq with ⟨e, _⟩ | ⟨B, hB, _⟩
      · exact .inl e
      · exact .inr ⟨B, hB⟩
    · exact absurd h3 hc
    · rw [h4] at h2
      have e1 : Nat.beq 4 1 = false := rfl
      have e2 : Nat.beq 4 4 = true := rfl
      simp only [e1, e2, bsel_false, bsel_true] at h2
      exact .inl (markA_eq h2).1

variable {μ0 : Mu} {w0 : World} {X : Nat → Prop} {a : Act} {w : World} {q : Nat} {μ : Mu}

/-- What lies between q and r is taken in. -/
theorem Ran.take (D : DI ρ F ops its T μ0 S0 w0 X a w q μ) : ∀ k, q + k ≤ its.length → (∀ (p : Nat) (it : Item), q ≤ p → p < q + k → its[p]? = some it → X it.i) →
    HR ρ μ (T (q + k)).2.1 w ∧ ∀ j, Owned (T (q + k)).2.1 μ j → Owned (T q).2.1 μ j ∨ ∃ (p : Nat) (it : Item) (B : ABlk) (m : Loc), q ≤ p ∧ p < q + k ∧ its[p]? = some it ∧ X it.i ∧ AL T p B ∧ μ (T p).2.1.next = some m ∧ m.blk = j
  | 0, _, _ => ⟨D.hr, fun j h => .inl h⟩
  | k + 1, h, hx => by
    obtain ⟨h1, h2⟩ := Ran.take D k (by omega) fun p it g1 g2 => hx p it g1 (by omega)
    have hlt : q + k < its.length := by omega
    have hp := List.getElem?_eq_getElem hlt
    have hX := hx (q + k) _ (by omega) (by omega) hp
    have hc : its[q + k].cls ≠ 3 := fun e => D.later (q + k) _ (by omega) hp e hX
    show HR ρ μ (T (q + k + 1)).2.1 w ∧ _
    rcases R.pure hp hc with e | ⟨B, hB⟩
    · show HR ρ μ (T (q + k + 1)).2.1 w ∧ ∀ j, Owned (T (q + k + 1)).2.1 μ j → _
      rw [e]
      refine ⟨h1, fun j hj => (h2 j hj).imp id fun ⟨p, it, B, m, g1, g2, g⟩ => ⟨p, it, B, m, g1, by omega, g⟩⟩
    · obtain ⟨m, ob, g1, g2, g3, g4, g5⟩ := D.extra (q + k) _ B (by omega) hp hX hB
      have hno : ¬ Owned (T (q + k)).2.1 μ m.blk := fun ho => by
        rcases h2 _ ho with ho | ⟨p, it, B', m', f1, f2, f3, f4, f5, f6, f7⟩
        · exact g4 ho
        · have := D.diff p (q + k) it _ B' B m' m f1 (by omega) f3 hp f4 hX f5 hB f6 g1 f7
          omega
      obtain ⟨r1, r2⟩ := absorb h1 hB g1 g2 g3 hno
      refine ⟨r1, fun j hj => ?_⟩
      rcases r2 j hj with hj | rfl
      · exact (h2 j hj).imp id fun ⟨p, it, B, m, g1, g2, g⟩ => ⟨p, it, B, m, g1, by omega, g⟩
      · exact .inr ⟨q + k, _, B, m, by omega, by omega, hp, hX, hB, g1, rfl⟩
end
end
end Go.Abs
