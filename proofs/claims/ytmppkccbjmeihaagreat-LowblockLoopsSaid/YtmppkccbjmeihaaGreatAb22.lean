/- Regions whose order is open: each step. -/
import Derived.Test.YtmppkccbjmeihaaGreatAb21
namespace Go.Abs
set_option autoImplicit true
set_option relaxedAutoImplicit true
set_option linter.unusedVariables false
set_option linter.unusedSimpArgs false
set_option linter.unusedSectionVars false
open Go.RowKit

section
variable {P : Program} {ρ : Nat → Int} {F : Fr} {C : Handler} {orc : SB → Option Bool} {ops : Array Oper}
variable {its : List Item} {anc : Nat → Nat → Prop} {T : Nat → Env × St × List St} {S0 : St} (R : Ran P ρ F C orc ops its anc T S0)
variable {μ0 : Mu} {w0 : World} {X : Nat → Prop} {a : Act} {w : World} {q : Nat} {μ : Mu}

/-- One more is listed. -/
def Plus (X : Nat → Prop) (i : Nat) : Nat → Prop := fun j => j = i ∨ X j

theorem DI.at (D : DI ρ F ops its T μ0 S0 w0 X a w q μ) {p : Nat} {it : Item} (hp : its[p]? = some it) (hx : ¬ X it.i) : q ≤ p := by
  rcases Nat.lt_or_ge p q with h | h
  · exact absurd (D.done p it h hp) hx
  · exact h

include R
/-- What the next one comes behind is listed. -/
theorem Ran.before {p : Nat} {it : Item} {o : Oper} (hp : its[p]? = some it) (ho : ops[it.i]? = some o) (hd : Down ops X) (hr : ∀ e ∈ o.after, Region.binds .any e = true → X e.on) {k : Nat} (hk : k < ops.size) (ha : anc it.i k) : X k := by
  have hi := (Array.getElem?_eq_some_iff.1 ho).1
  obtain ⟨o', ho', e, he, hb, h⟩ := R.plan.anc1 it.i k hi hk ha
  rw [ho] at ho'
  cases ho'
  have h2 := R.plan.edge it.i o ho e he hb
  rcases h with h | h
  · rw [← h]; exact hr e he hb
  · exact anc_listed R.plan hd e.on k (by omega) hk h (hr e he hb)

theorem Ran.sees (D : DI ρ F ops its T μ0 S0 w0 X a w q μ) {p : Nat} {it : Item} {o : Oper} (hp : its[p]? = some it) (ho : ops[it.i]? = some o) (hx : ¬ X it.i) (hd : Down ops X) (hr : ∀ e ∈ o.after, Region.binds .any e = true → X e.on) :
    ∀ t ∈ o.looksAt ops, ∀ u, lk F t (T p).1 = some u → VR ρ μ u (a.tmps.getD t undef) := fun t ht u hu => by
  have hpl := (List.getElem?_eq_some_iff.1 hp).1
  by_cases h : ∃ (q' : Nat) (it' : Item) (o' : Oper), its[q']? = some it' ∧ ops[it'.i]? = some o' ∧ o'.dst = some t ∧ p < q'
  · obtain ⟨q', it', o', hq', ho', hdt, hlt⟩ := h
    have hall : ∀ r it2 o2, its[r]? = some it2 → ops[it2.i]? = some o2 → o2.dst = some t → r = q' := fun r it2 o2 h1 h2 h3 => R.plan.dst r q' it2 it' o2 o' t h1 hq' h2 ho' h3 hdt
    have hanc : anc it'.i it.i := by
      rcases R.plan.look p q' it it' o o' hp hq' ho ho' t ht hdt with h | h
      · have := h.2; omega
      · exact h.1
    have hnx : ¬ X it'.i := fun h => hx (anc_listed R.plan hd it'.i it.i (Array.getElem?_eq_some_iff.1 ho').1 (Array.getElem?_eq_some_iff.1 ho).1 hanc h)
    rw [R.old (by omega) fun r it2 o2 h1 h2 h3 => by have := hall r it2 o2 h1 h2 h3; omega] at hu
    refine D.old t u (fun i o2 ho2 hdt2 => ?_) hu
    obtain ⟨p2, it2, hp2, rfl⟩ := R.plan.onto i (Array.getElem?_eq_some_iff.1 ho2).1
    have e := hall p2 it2 o2 hp2 ho2 hdt2
    subst e
    rw [hq'] at hp2
    cases hp2
    exact hnx
  · have hb : ∀ r it' o', its[r]? = some it' → ops[it'.i]? = some o' → o'.dst = some t → anc it.i it'.i ∧ r < p := fun r it' o' h1 h2 h3 => by
      rcases R.plan.look p r it it' o o' hp h1 ho h2 t ht h3 with g | g
      · exact g
      · exact absurd ⟨r, it', o', h1, h2, h3, g.2⟩ h
    refine D.ar t u (fun i o' ho' hdt => ?_) (by rw [R.operand (by omega) fun r it' o' h1 h2 h3 => (hb r it' o' h1 h2 h3).2]; exact hu)
    have hi := (Array.getElem?_eq_some_iff.1 ho').1
    obtain ⟨p', it', hp', rfl⟩ := R.plan.onto i hi
    exact R.before hp ho hd hr hi (hb p' it' o' hp' ho' hdt).1

theorem Ran.old_put (D : DI ρ F ops its T μ0 S0 w0 X a w q μ) {μ' : Mu} (hm : ∀ b m, μ b = some m → μ' b = some m) {it : Item} {o : Oper} (ho : ops[it.i]? = some o) (x : Value) :
    ∀ t u, (∀ (i : Nat) (o : Oper), ops[i]? = some o → o.dst = some t → ¬ Plus X it.i i) → F.get t = some u → VR ρ μ' u ((a.put o.dst x).tmps.getD t undef) := fun t u hc hu => by
  have h := (D.old t u (fun i o' ho' hdt hx => hc i o' ho' hdt (.inr hx)) hu).mono hm
  cases hd : o.dst with
  | none => exact h
  | some d =>
    rw [getD_put_other (fun e => hc it.i o ho (by rw [hd, e]) (.inl rfl))]
    exact h

theorem Ran.ar_put (D : DI ρ F ops its T μ0 S0 w0 X a w q μ) {μ' : Mu} (hm : ∀ b m, μ b = some m → μ' b = some m) {p : Nat} {it : Item} {o : Oper} (hp : its[p]? = some it) (ho : ops[it.i]? = some o) {v : AVal} {x : Value} (hv : VR ρ μ' v x)
    (hE : (T (p + 1)).1 = match o.dst with | some d => (d, v) :: (T p).1 | none => (T p).1) (hlt : ∀ d, o.dst = some d → d < F.n) :
    ∀ t u, (∀ (i : Nat) (o : Oper), ops[i]? = some o → o.dst = some t → Plus X it.i i) → lk F t (T its.length).1 = some u → VR ρ μ' u ((a.put o.dst x).tmps.getD t undef) := fun t u hc hu => by
  cases hd : o.dst with
  | none =>
    refine (D.ar t u (fun i o' ho' hdt => ?_) hu).mono hm
    rcases hc i o' ho' hdt with rfl | h
    · rw [ho] at ho'; cases ho'; rw [hd] at hdt; cases hdt
    · exact h
  | some d =>
    rw [hd] at hE
    by_cases e : d = t
    · subst e
      rw [R.result hp ho hd hE] at hu
      cases hu
      rw [getD_put_same (by rw [D.size]; exact hlt d hd)]
      exact hv
    · rw [getD_put_other e]
      refine (D.ar t u (fun i o' ho' hdt => ?_) hu).mono hm
      rcases hc i o' ho' hdt with rfl | h
      · rw [ho] at ho'; cases ho'; rw [hd] at hdt; cases hdt; exact absurd rfl e
      · exact h

theorem put_size (a : Act) (d : Option Tmp) (x : Value) : (a.put d x).tmps.size = a.tmps.size ∧ (a.put d x).defers = a.defers := by
  cases d with
  | none => exact ⟨rfl, rfl⟩
  | some d => simp [Act.put]

omit R in
theorem plus_other {X : Nat → Prop} {i j : Nat} (h : Plus X i j) (hne : j ≠ i) : X j := h.resolve_left hne

/-- One that changes nothing. -/
theorem Ran.quiet (D : DI ρ F ops its T μ0 S0 w0 X a w q μ) {p : Nat} {it : Item} {o : Oper} (hp : its[p]? = some it) (ho : ops[it.i]? = some o) (hx : ¬ X it.i) (hc : it.cls ≠ 3) {v : AVal} {x : Value} (hv : VR ρ μ v x)
    (hE : (T (p + 1)).1 = match o.dst with | some d => (d, v) :: (T p).1 | none => (T p).1) (hlt : ∀ d, o.dst = some d → d < F.n) (hS : (T (p + 1)).2.1 = (T p).2.1) : DI ρ F ops its T μ0 S0 w0 (Plus X it.i) (a.put o.dst x) w q μ := by
  have hal : ∀ B, ¬ AL T p B := fun B h => by have := h.next; rw [hS] at this; omega
  have oth : ∀ {p' : Nat} {it' : Item} {B : ABlk}, its[p']? = some it' → Plus X it.i it'.i → AL T p' B → X it'.i := fun {p' it' B} hp' hx' hB => by
    rcases hx' with e | h
    · have := R.plan.inj p' p it' it hp' hp e
      subst this; exact absurd hB (hal B)
    · exact h
  exact { D with
    done := fun p' it' h1 h2 => .inr (D.done p' it' h1 h2)
    later := fun p' it' h1 h2 h3 h4 => by
      rcases h4 with e | h
      · have := R.plan.inj p' p it' it h2 hp e
        subst this; rw [hp] at h2; cases h2; exact hc h3
      · exact D.later p' it' h1 h2 h3 h
    size := by rw [(put_size R a _ _).1]; exact D.size
    defers := by rw [(put_size R a _ _).2]; exact D.defers
    ar := R.ar_put D (fun _ _ h => h) hp ho hv hE hlt
    old := R.old_put D (fun _ _ h => h) ho x
    extra := fun p' it' B h1 h2 h3 h4 => D.extra p' it' B h1 h2 (oth h2 h3 h4) h4
    diff := fun p1 p2 i1 i2 B1 B2 m1 m2 h1 h2 h3 h4 h5 h6 h7 h8 => D.diff p1 p2 i1 i2 B1 B2 m1 m2 h1 h2 h3 h4 (oth h3 h5 h7) (oth h4 h6 h8) h7 h8
    none := fun b h1 h2 h3 => D.none b h1 h2 fun p' it' B g1 g2 g3 g4 => h3 p' it' B g1 g2 (.inr g3) g4 }

/-- One that makes a block. -/
theorem Ran.makes (D : DI ρ F ops its T μ0 S0 w0 X a w q μ) {p : Nat} {it : Item} {o : Oper} (hp : its[p]? = some it) (ho : ops[it.i]? = some o) (hx : ¬ X it.i) (hc : it.cls ≠ 3) {v : AVal} {x : Value} {B : ABlk} (hB : AL T p B)
    {ob : Obj} {m : Loc} {w1 : World} (hw1 : w1 = w ∨ w1 = w.drew) (hmb : m.blk = w.heap.size) (hok : NewOK ρ μ B ob m) (hv : VR ρ (muSet μ (T p).2.1.next m) v x)
    (hE : (T (p + 1)).1 = match o.dst with | some d => (d, v) :: (T p).1 | none => (T p).1) (hlt : ∀ d, o.dst = some d → d < F.n) :
    DI ρ F ops its T μ0 S0 w0 (Plus X it.i) (a.put o.dst x) (w1.alloc ob) q (muSet μ (T p).2.1.next m) := by
  have hqp := D.at hp hx
  have hpl := (List.getElem?_eq_some_iff.1 hp).1
  have hn1 := hB.next
  have hle1 := R.nextLe hqp (by omega)
  have hle2 := R.nextLe (p := p + 1) (q := its.length) (by omega) (Nat.le_refl _)
  have hne : ∀ {p' : Nat} {B' : ABlk}, p' < its.length → AL T p' B' → p' ≠ p → (T p').2.1.next ≠ (T p).2.1.next := fun {p' B'} hl hB' hpp e => by
    have h1 := hB'.next
    rcases Nat.lt_or_ge p' p with h | h
    · have := R.nextLe (p := p' + 1) (q := p) (by omega) (by omega); omega
    · have := R.nextLe (p := p + 1) (q := p') (by omega) (by omega); omega
  have lt : ∀ {p' : Nat} {it' : Item}, its[p']? = some it' → p' < its.length := fun h => (List.getElem?_eq_some_iff.1 h).1
  have hnone : μ (T p).2.1.next = none := D.none _ hle1 (by omega) fun p' it' B' g1 g2 g3 g4 e => hne (lt g2) g4 (fun e' => by subst e'; rw [hp] at g2; cases g2; exact hx g3) e.symm
  have hmono := muSet_mono (m := m) hnone
  have hsz : w1.heap.size = w.heap.size := by rcases hw1 with rfl | rfl <;> rfl
  have hold : ∀ k, k < w.heap.size → (w1.alloc ob).heap[k]? = w.heap[k]? := fun k hk => by
    have : w1.heap = w.heap := by rcases hw1 with rfl | rfl <;> rfl
    rw [Below.heap_alloc _ _ _ (by rw [hsz]; exact hk), this]
  have hnew : (w1.alloc ob).heap[m.blk]? = some ob := by
    rw [hmb, ← hsz]
    show (w1.heap.push ob)[w1.heap.size]? = some ob
    rw [Array.getElem?_push, if_pos rfl]
  have hmu : ∀ c m', c ≠ (T p).2.1.next → muSet μ (T p).2.1.next m c = some m' → μ c = some m' := fun c m' h h' => by unfold muSet at h'; rw [if_neg h] at h'; exact h'
  have hwf : ∀ c Y, (T q).2.1.blk c = some Y → c ≠ (T p).2.1.next := fun c Y h e => by
    rw [D.hr.wf c (by omega)] at h; cases h
  have hO : ∀ c m', Owns (T q).2.1 (muSet μ (T p).2.1.next m) c m' → Owns (T q).2.1 μ c m' := fun c m' ⟨h1, Y, h2, h3⟩ => ⟨hmu c m' (hwf c Y h2) h1, Y, h2, h3⟩
  have hno : ∀ k, Owned (T q).2.1 (muSet μ (T p).2.1.next m) k → Owned (T q).2.1 μ k := fun k ⟨c, m', h, e⟩ => ⟨c, m', hO c m' h, e⟩
  have oth : ∀ {p' : Nat} {it' : Item}, its[p']? = some it' → Plus X it.i it'.i → p' ≠ p → X it'.i := fun {p' it'} hp' hx' hpp => by
    rcases hx' with e | h
    · exact absurd (R.plan.inj p' p it' it hp' hp e) hpp
    · exact h
  have here : muSet μ (T p).2.1.next m (T p).2.1.next = some m := muSet_same _ _
  have there : ∀ {p' : Nat} {B' : ABlk}, p' < its.length → AL T p' B' → p' ≠ p → muSet μ (T p).2.1.next m (T p').2.1.next = μ (T p').2.1.next := fun {p' B'} h1 h2 h3 => by unfold muSet; rw [if_neg (hne h1 h2 h3)]
  refine
   { le := D.le, bound := D.bound
     done := fun p' it' h1 h2 => .inr (D.done p' it' h1 h2)
     later := fun p' it' h1 h2 h3 h4 => ?_
     hr := ⟨fun c n d t m' h1 h2 => ?_, fun c es cl m' h1 h2 => ?_, fun c c' m1 m2 h1 h2 => D.hr.inj c c' m1 m2 (hO _ _ h1) (hO _ _ h2), D.hr.wf⟩
     size := by rw [(put_size R a _ _).1]; exact D.size
     defers := by rw [(put_size R a _ _).2]; exact D.defers
     ar := R.ar_put D hmono hp ho hv hE hlt
     old := R.old_put D hmono ho x
     extra := fun p' it' B' h1 h2 h3 h4 => ?_
     diff := fun p1 p2 i1 i2 B1 B2 m1 m2 h1 h2 h3 h4 h5 h6 h7 h8 h9 h10 e => ?_
     none := fun b h1 h2 h3 => ?_
     ext0 := fun b hb => ?_
     mono0 := fun b m' h => hmono b m' (D.mono0 b m' h)
     size0 := ?_
     frame0 := fun k hk hn => ?_
     own0 := fun k hk => D.own0 k (hno k hk)
     os0 := ?_, tape0 := ?_, output0 := ?_ }
  · rcases h4 with e | h
    · have := R.plan.inj p' p it' it h2 hp e
      subst this; rw [hp] at h2; cases h2; exact hc h3
    · exact D.later p' it' h1 h2 h3 h
  · obtain ⟨g1, g2, g3⟩ := D.hr.cells c n d t m' h1 (hmu c m' (hwf c _ h1) h2)
    have hl := g2.lt
    refine ⟨g1, ?_, fun i u hu => ?_⟩
    · obtain ⟨arr, Ty, lo, hi, r⟩ := g2; exact ⟨arr, Ty, lo, hi, by rw [hold _ hl]; exact r⟩
    · obtain ⟨y, hy, hr⟩ := g3 i u hu
      exact ⟨y, by rw [← hy]; exact cell_congr (hold _ hl) _, hr.mono hmono⟩
  · have g := D.hr.maps c es cl m' h1 (hmu c m' (hwf c _ h1) h2)
    rw [hold _ (Array.getElem?_eq_some_iff.1 g).1]; exact g
  · by_cases hpp : p' = p
    · subst hpp
      have := hB.same h4
      subst this
      refine ⟨m, ob, here, hnew, hok.mono hmono, fun h => ?_, by rw [hmb]; exact D.size0⟩
      have := D.hr.lt (hno _ h)
      omega
    · obtain ⟨m', ob', g1, g2, g3, g4, g5⟩ := D.extra p' it' B' h1 h2 (oth h2 h3 hpp) h4
      have hl := (Array.getElem?_eq_some_iff.1 g2).1
      exact ⟨m', ob', by rw [there (lt h2) h4 hpp]; exact g1, by rw [hold _ hl]; exact g2, g3.mono hmono, fun h => g4 (hno _ h), g5⟩
  · by_cases e1 : p1 = p <;> by_cases e2 : p2 = p
    · rw [e1, e2]
    · subst e1
      rw [here] at h9
      cases h9
      rw [there (lt h4) h8 e2] at h10
      obtain ⟨m', ob', g1, g2, _⟩ := D.extra p2 i2 B2 h2 h4 (oth h4 h6 e2) h8
      rw [h10] at g1
      cases g1
      have hl := (Array.getElem?_eq_some_iff.1 g2).1
      omega
    · subst e2
      rw [here] at h10
      cases h10
      rw [there (lt h3) h7 e1] at h9
      obtain ⟨m', ob', g1, g2, _⟩ := D.extra p1 i1 B1 h1 h3 (oth h3 h5 e1) h7
      rw [h9] at g1
      cases g1
      have hl := (Array.getElem?_eq_some_iff.1 g2).1
      omega
    · rw [there (lt h3) h7 e1] at h9
      rw [there (lt h4) h8 e2] at h10
      exact D.diff p1 p2 i1 i2 B1 B2 m1 m2 h1 h2 h3 h4 (oth h3 h5 e1) (oth h4 h6 e2) h7 h8 h9 h10 e
  · have hbp : b ≠ (T p).2.1.next := h3 p it B hqp hp (.inl rfl) hB
    unfold muSet
    rw [if_neg hbp]
    exact D.none b h1 h2 fun p' it' B' g1 g2 g3 g4 => h3 p' it' B' g1 g2 (.inr g3) g4
  · have h0 := R.nextLe (p := 0) (q := p) (by omega) (by omega)
    rw [R.start] at h0
    have h0' : S0.next ≤ (T p).2.1.next := h0
    unfold muSet
    rw [if_neg (by omega)]
    exact D.ext0 b hb
  · have := D.size0
    show w0.heap.size ≤ (w1.heap.push ob).size
    rw [Array.size_push, hsz]; omega
  · have := D.size0
    rw [hold k (by omega)]; exact D.frame0 k hk hn
  · rw [← D.os0]; rcases hw1 with rfl | rfl <;> rfl
  · rw [← D.tape0]; rcases hw1 with rfl | rfl <;> rfl
  · rw [← D.output0]; rcases hw1 with rfl | rfl <;> rfl
end
end Go.Abs
