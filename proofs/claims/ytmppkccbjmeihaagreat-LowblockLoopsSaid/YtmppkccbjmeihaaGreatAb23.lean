/- Regions whose order is open: sound. -/
import Derived.Test.YtmppkccbjmeihaaGreatAb22
namespace Go.Abs
set_option autoImplicit true
set_option relaxedAutoImplicit true
set_option linter.unusedVariables false
set_option linter.unusedSimpArgs false
set_option linter.unusedSectionVars false
open Go.RowKit

section
variable {P : Program} {ρ : Nat → Int} {F : Fr} {C : Handler} {orc : SB → Option Bool} {ops : Array Oper}
variable {its : List Item} {anc : Nat → Nat → Prop} {T : Nat → Env × St × List St} {S0 : St} (R : Ran P ρ F C orc ops its anc T S0)
variable {μ0 : Mu} {w0 : World} {X : Nat → Prop} {a : Act} {w : World} {q : Nat} {μ : Mu}

include R
/-- One of the third kind. -/
theorem Ran.acts (D : DI ρ F ops its T μ0 S0 w0 X a w q μ) {p : Nat} {it : Item} {o : Oper} (hp : its[p]? = some it) (ho : ops[it.i]? = some o) (hx : ¬ X it.i) (hc : it.cls = 3)
    (hall : ∀ (p' : Nat) (it' : Item), p' < p → its[p']? = some it' → X it'.i) {v : AVal} {x : Value} {μ' : Mu} {w' : World} (hv : VR ρ μ' v x)
    (hE : (T (p + 1)).1 = match o.dst with | some d => (d, v) :: (T p).1 | none => (T p).1) (hlt : ∀ d, o.dst = some d → d < F.n)
    (hs : Step ρ μ (T p).2.1 w μ' (T (p + 1)).2.1 w') : DI ρ F ops its T μ0 S0 w0 (Plus X it.i) (a.put o.dst x) w' (p + 1) μ' := by
  have hqp := D.at hp hx
  have hpl := (List.getElem?_eq_some_iff.1 hp).1
  have lt : ∀ {p' : Nat} {it' : Item}, its[p']? = some it' → p' < its.length := fun h => (List.getElem?_eq_some_iff.1 h).1
  obtain ⟨k, hk⟩ : ∃ k, p = q + k := ⟨p - q, by omega⟩
  obtain ⟨_, htake⟩ := R.take D k (by omega) fun p' it' _ h2 h3 => hall p' it' (by omega) h3
  rw [← hk] at htake
  have hown : ∀ j, Owned (T p).2.1 μ j → Owned S0 μ0 j ∨ w0.heap.size ≤ j := fun j hj => by
    rcases htake j hj with h | ⟨p', it', B, m, g1, g2, g3, g4, g5, g6, g7⟩
    · exact D.own0 j h
    · obtain ⟨m', ob, f1, f2, f3, f4, f5⟩ := D.extra p' it' B g1 g3 g4 g5
      rw [g6] at f1
      cases f1
      exact .inr (by omega)
  have oth : ∀ {p' : Nat} {it' : Item}, its[p']? = some it' → Plus X it.i it'.i → p' ≠ p → X it'.i := fun {p' it'} hp' hx' hpp => by
    rcases hx' with e | h
    · exact absurd (R.plan.inj p' p it' it hp' hp e) hpp
    · exact h
  have hmu : ∀ b, (T (p + 1)).2.1.next ≤ b → μ' b = μ b := fun b hb => hs.ext b (.inr hb)
  have hno : ∀ {p' : Nat} {it' : Item} {B : ABlk} {m : Loc}, p + 1 ≤ p' → its[p']? = some it' → X it'.i → AL T p' B → μ (T p').2.1.next = some m → ¬ Owned (T p).2.1 μ m.blk := fun {p' it' B m} h1 h2 h3 h4 h5 h6 => by
    rcases htake _ h6 with h | ⟨p2, it2, B2, m2, g1, g2, g3, g4, g5, g6, g7⟩
    · obtain ⟨m', ob, f1, f2, f3, f4, f5⟩ := D.extra p' it' B (by omega) h2 h3 h4
      rw [h5] at f1
      cases f1
      exact f4 h
    · have := D.diff p2 p' it2 it' B2 B m2 m g1 (by omega) g3 h2 g4 h3 g5 h4 g6 h5 g7
      omega
  have h0 := R.nextLe (p := 0) (q := p) (by omega) (by omega)
  rw [R.start] at h0
  have h0' : S0.next ≤ (T p).2.1.next := h0
  have hle2 := R.nextLe (p := p + 1) (q := its.length) (by omega) (Nat.le_refl _)
  have hle3 := R.nextLe (p := q) (q := p + 1) (by omega) (by omega)
  refine
   { le := by omega, bound := .inr ⟨it, by simpa using hp, hc⟩
     done := fun p' it' h1 h2 => ?_
     later := fun p' it' h1 h2 h3 h4 => D.later p' it' (by omega) h2 h3 (oth h2 h4 (by omega))
     hr := hs.hr
     size := by rw [(put_size R a _ _).1]; exact D.size
     defers := by rw [(put_size R a _ _).2]; exact D.defers
     ar := R.ar_put D hs.mono hp ho hv hE hlt
     old := R.old_put D hs.mono ho x
     extra := fun p' it' B h1 h2 h3 h4 => ?_
     diff := fun p1 p2 i1 i2 B1 B2 m1 m2 h1 h2 h3 h4 h5 h6 h7 h8 h9 h10 e => ?_
     none := fun b h1 h2 h3 => ?_
     ext0 := fun b hb => ?_
     mono0 := fun b m h => hs.mono b m (D.mono0 b m h)
     size0 := Nat.le_trans D.size0 hs.size
     frame0 := fun j hj hn => ?_
     own0 := fun j hj => ?_
     os0 := hs.os.trans D.os0, tape0 := hs.tape.trans D.tape0, output0 := hs.output.trans D.output0 }
  · rcases Nat.lt_or_ge p' p with h | h
    · exact .inr (hall p' it' h h2)
    · have : p' = p := by omega
      subst this; rw [hp] at h2; cases h2; exact .inl rfl
  · have hX := oth h2 h3 (by omega)
    obtain ⟨m, ob, f1, f2, f3, f4, f5⟩ := D.extra p' it' B (by omega) h2 hX h4
    have hl := (Array.getElem?_eq_some_iff.1 f2).1
    have hn := hno h1 h2 hX h4 f1
    have := R.nextLe (p := p + 1) (q := p') h1 (by have := lt h2; omega)
    refine ⟨m, ob, by rw [hmu _ this]; exact f1, by rw [hs.frame _ hl hn]; exact f2, f3.mono hs.mono, fun h => ?_, f5⟩
    rcases hs.own _ h with h | h
    · exact hn h
    · omega
  · have e1 := R.nextLe (p := p + 1) (q := p1) h1 (by have := lt h3; omega)
    have e2 := R.nextLe (p := p + 1) (q := p2) h2 (by have := lt h4; omega)
    rw [hmu _ e1] at h9
    rw [hmu _ e2] at h10
    exact D.diff p1 p2 i1 i2 B1 B2 m1 m2 (by omega) (by omega) h3 h4 (oth h3 h5 (by omega)) (oth h4 h6 (by omega)) h7 h8 h9 h10 e
  · rw [hmu b h1]
    refine D.none b (by omega) h2 fun p' it' B g1 g2 g3 g4 e => ?_
    rcases Nat.lt_or_ge p' (p + 1) with h | h
    · have := g4.next
      have := R.nextLe (p := p' + 1) (q := p + 1) (by omega) (by omega)
      omega
    · exact h3 p' it' B h g2 (.inr g3) g4 e
  · rw [hs.ext b (by omega)]; exact D.ext0 b hb
  · have h1 := D.size0
    rw [hs.frame j (by omega) fun h => ?_]
    · exact D.frame0 j hj hn
    · rcases hown j h with h | h
      · exact hn h
      · omega
  · rcases hs.own j hj with h | h
    · exact hown j h
    · have := D.size0; exact .inr (by omega)

/-- All are listed. -/
theorem Ran.finish (D : DI ρ F ops its T μ0 S0 w0 X a w q μ) (hall : ∀ (p : Nat) (it : Item), its[p]? = some it → X it.i) : AI ρ μ F (T its.length).1 a ∧ Step ρ μ0 S0 w0 μ (T its.length).2.1 w := by
  obtain ⟨k, hk⟩ : ∃ k, its.length = q + k := ⟨its.length - q, by have := D.le; omega⟩
  obtain ⟨h1, h2⟩ := R.take D k (by omega) fun p it _ _ h => hall p it h
  rw [← hk] at h1 h2
  have h0 := R.nextLe (p := 0) (q := its.length) (by omega) (Nat.le_refl _)
  rw [R.start] at h0
  refine ⟨⟨fun t u hu => D.ar t u (fun i o ho _ => ?_) hu, D.size, D.defers⟩, h1, h0, D.ext0, D.mono0, D.size0, D.frame0, fun j hj => ?_, D.os0, D.tape0, D.output0⟩
  · obtain ⟨p, it, hp, rfl⟩ := R.plan.onto i (Array.getElem?_eq_some_iff.1 ho).1
    exact hall p it hp
  · rcases h2 j hj with h | ⟨p', it', B, m, g1, g2, g3, g4, g5, g6, g7⟩
    · exact D.own0 j h
    · obtain ⟨m', ob, f1, f2, f3, f4, f5⟩ := D.extra p' it' B g1 g3 g4 g5
      rw [g6] at f1
      cases f1
      exact .inr (by omega)

omit R in
theorem HR.other {μ : Mu} {S : St} {w w' : World} (h : HR ρ μ S w) {k : Nat} (hk : ∀ j, j ≠ k → w'.heap[j]? = w.heap[j]?) (hn : ¬ Owned S μ k) : HR ρ μ S w' where
  cells := fun b n d t m hb hm => by
    obtain ⟨h1, h2, h3⟩ := h.cells b n d t m hb hm
    have hne : m.blk ≠ k := fun e => hn ⟨b, m, ⟨hm, _, hb, by simp⟩, e⟩
    refine ⟨h1, ?_, fun i v hv => ?_⟩
    · obtain ⟨arr, T, lo, hi, q⟩ := h2; exact ⟨arr, T, lo, hi, by rw [hk _ hne]; exact q⟩
    · obtain ⟨x, hx, hr⟩ := h3 i v hv; exact ⟨x, by rw [← hx]; exact cell_congr (hk _ hne) _, hr⟩
  maps := fun b es cl m hb hm => by
    have hne : m.blk ≠ k := fun e => hn ⟨b, m, ⟨hm, _, hb, by simp⟩, e⟩
    rw [hk _ hne]; exact h.maps b es cl m hb hm
  inj := h.inj
  wf := h.wf

/-- What is ours is changed, and stands as before. -/
theorem Ran.owned (D : DI ρ F ops its T μ0 S0 w0 X a w q μ) {w' : World} (hs : Step ρ μ (T q).2.1 w μ (T q).2.1 w') : DI ρ F ops its T μ0 S0 w0 X a w' q μ :=
  { D with
    hr := hs.hr
    extra := fun p it B h1 h2 h3 h4 => by
      obtain ⟨m, ob, f1, f2, f3, f4, f5⟩ := D.extra p it B h1 h2 h3 h4
      have hl := (Array.getElem?_eq_some_iff.1 f2).1
      exact ⟨m, ob, f1, by rw [hs.frame _ hl f4]; exact f2, f3, f4, f5⟩
    size0 := Nat.le_trans D.size0 hs.size
    frame0 := fun k hk hn => by
      have := D.size0
      rw [hs.frame k (by omega) fun h => ?_]
      · exact D.frame0 k hk hn
      · rcases D.own0 k h with h | h
        · exact hn h
        · omega
    os0 := hs.os.trans D.os0, tape0 := hs.tape.trans D.tape0, output0 := hs.output.trans D.output0 }

/-- A block that is there before its time is marked. -/
theorem Ran.early (D : DI ρ F ops its T μ0 S0 w0 X a w q μ) {p : Nat} {it : Item} {B : ABlk} {m : Loc} (hqp : q ≤ p) (hp : its[p]? = some it) (hx : X it.i) (hB : AL T p B) (hm : μ (T p).2.1.next = some m) {arr : Array Value} {Ty : TypeId} {z : Nat × Nat}
    (ho : w.heap[m.blk]? = some (.cells arr Ty z)) : DI ρ F ops its T μ0 S0 w0 X a (w.freeze ⟨m.blk, arr.size, none⟩ 1) q μ := by
  obtain ⟨m', ob, f1, f2, f3, f4, f5⟩ := D.extra p it B hqp hp hx hB
  rw [hm] at f1
  cases f1
  rw [ho] at f2
  cases f2
  have hne : ∀ k, k ≠ m.blk → (w.freeze ⟨m.blk, arr.size, none⟩ 1).heap[k]? = w.heap[k]? := fun k hk => by
    simp only [World.freeze, Nat.one_ne_zero, if_false, Array.getElem?_modify]
    rw [if_neg (Ne.symm hk)]
  obtain ⟨lo, hi⟩ := z
  obtain ⟨lo', hi', heq, hlo⟩ : ∃ lo' hi', (w.freeze ⟨m.blk, arr.size, none⟩ 1).heap[m.blk]? = some (.cells arr Ty (lo', hi')) ∧ ((lo = hi ∨ arr.size ≤ lo) → arr.size ≤ lo') := by
    by_cases hz : lo = hi
    · refine ⟨arr.size, arr.size + 1, ?_, fun _ => Nat.le_refl _⟩
      simp only [World.freeze, Nat.one_ne_zero, if_false, Array.getElem?_modify, if_true, ho, Option.map_some]
      simp [hz]
    · refine ⟨min lo arr.size, max hi (arr.size + 1), ?_, fun hh => by omega⟩
      simp only [World.freeze, Nat.one_ne_zero, if_false, Array.getElem?_modify, if_true, ho, Option.map_some]
      simp [hz]
  have hsz : (w.freeze ⟨m.blk, arr.size, none⟩ 1).heap.size = w.heap.size := by simp [World.freeze]
  exact { D with
    hr := D.hr.other hne f4
    extra := fun p' it' B' h1 h2 h3 h4 => by
      obtain ⟨m', ob', g1, g2, g3, g4, g5⟩ := D.extra p' it' B' h1 h2 h3 h4
      by_cases e : m'.blk = m.blk
      · have := D.diff p' p it' it B' B m' m h1 hqp h2 hp h3 hx h4 hB g1 hm e
        subst this
        have := h4.same hB
        subst this
        rw [g1] at hm
        cases hm
        refine ⟨m, _, g1, heq, ?_, g4, g5⟩
        cases B' with
        | cells n d t =>
          obtain ⟨r1, r2, arr', T', lo1, hi1, r3, r4, r5, r6⟩ := f3
          cases r3
          exact ⟨r1, r2, arr, Ty, lo', hi', rfl, .inr (hlo r4), r5, r6⟩
        | amap es cl => cases f3
        | dead => exact f3
      · exact ⟨m', ob', g1, by rw [hne _ e]; exact g2, g3, g4, g5⟩
    size0 := by rw [hsz]; exact D.size0
    frame0 := fun k hk hn => by rw [hne k (by omega)]; exact D.frame0 k hk hn
    os0 := by rw [← D.os0]; simp [World.freeze]
    tape0 := by rw [← D.tape0]; simp [World.freeze]
    output0 := by rw [← D.output0]; simp [World.freeze] }

/-- How far back a read, a mark, is looked at. -/
theorem Ran.window (D : DI ρ F ops its T μ0 S0 w0 X a w q μ) {p : Nat} {it : Item} {o : Oper} (hp : its[p]? = some it) (ho : ops[it.i]? = some o) (hx : ¬ X it.i) (hd : Down ops X) (hr : ∀ e ∈ o.after, Region.binds .any e = true → X e.on) (hc : it.cls = 1 ∨ it.cls = 4) :
    ∃ c, c ≤ it.lo ∧ (T p).2.2[c]? = some (T q).2.1 := by
  have hqp := D.at hp hx
  have hpl := (List.getElem?_eq_some_iff.1 hp).1
  obtain ⟨k, hk'⟩ : ∃ k, p = q + k := ⟨p - q, by omega⟩
  have hh := R.hist D.bound k (by omega)
  rw [← hk'] at hh
  refine ⟨_, ?_, hh⟩
  rcases Nat.lt_or_ge it.lo (((its.drop q).take k).countP isE) with h | h
  · obtain ⟨j, itj, g1, g2, g3, g4⟩ := first_E (its.drop q) k (by omega)
    rw [List.getElem?_drop] at g2
    rw [List.drop_drop] at g4
    have hcj : itj.cls = 3 := Nat.eq_of_beq_eq_true g3
    have := R.plan.low (q + j) p it itj (by omega) g2 hp hcj hc (by
      rw [show q + j + 1 = q + (j + 1) by omega, show p - (q + (j + 1)) = k - (j + 1) by omega]
      omega)
    obtain ⟨oj, hoj⟩ := R.plan.op _ _ g2
    exact absurd (R.before hp ho hd hr (Array.getElem?_eq_some_iff.1 hoj).1 this) (D.later _ _ (by omega) g2 hcj)
  · exact h

/-- A mark. -/
theorem Ran.marks (D : DI ρ F ops its T μ0 S0 w0 X a w q μ) {p : Nat} {it : Item} {o : Oper} (hp : its[p]? = some it) (ho : ops[it.i]? = some o) (hx : ¬ X it.i) (hd : Down ops X) (hr : ∀ e ∈ o.after, Region.binds .any e = true → X e.on) (hc : it.cls = 4) {v : AVal}
    (h : markA P F (T p).1 (T p).2.1 (T p).2.2 it.lo o = some (v, (T (p + 1)).2.1)) (hsee : ∀ x ∈ o.op.operands, ∀ v, evo F (T p).1 x = some v → VR ρ μ v (a.eval x))
    (hE : (T (p + 1)).1 = match o.dst with | some d => (d, v) :: (T p).1 | none => (T p).1) (hlt : ∀ d, o.dst = some d → d < F.n) {Q : Exit → Act → World → Prop} {K : Act → World → Prop}
    (hK : ∀ a' w', DI ρ F ops its T μ0 S0 w0 (Plus X it.i) a' w' q μ → K a' w') : o.wp P a w K Q := by
  obtain ⟨hS, s, x, b, i, len, cap, opn, hop, hu8, hv, hve, hbn, hlook⟩ := markA_eq h
  have hpl := (List.getElem?_eq_some_iff.1 hp).1
  have hvr := hsee x (by rw [hop]; simp [Op.operands]) v hv
  obtain ⟨e, he1, he2⟩ := isU8_eq hu8
  obtain ⟨c, hc1, hc2⟩ := R.window D hp ho hx hd hr (.inr hc)
  have hin := looksM_sound hlook c _ hc1 hc2
  obtain ⟨m, A, cp, hm, hval⟩ : ∃ m A cp, μ b = some m ∧ a.eval x = .slice (some ⟨m.blk, A, none⟩) len cp := by
    rw [hve] at hvr
    generalize a.eval x = Y at hvr
    cases hvr with
    | slice _ _ _ _ m hm _ => exact ⟨m, _, _, hm, rfl⟩
    | oslice _ _ _ _ _ _ m hm _ _ _ => exact ⟨m, _, _, hm, rfl⟩
  -- the run, where a row is there; where none is
  have run : ∀ w', (markStringish ⟨m.blk, A, none⟩).run P w = .ok () w' → (execOp a.eval o).run P w = .ok (.value (a.eval x)) w' := fun w' hw' => by
    have hex : execOp a.eval o = (do Pure.pure (Next.value (← Go.convert s s (a.eval x)))) := by unfold execOp; rw [hop]
    refine exec_value hex ?_
    rw [hval]
    simp [Go.convert, run_underlying he1, run_underlying he2, hw']
  have fin : ∀ w', (markStringish ⟨m.blk, A, none⟩).run P w = .ok () w' → DI ρ F ops its T μ0 S0 w0 X a w' q μ → o.wp P a w K Q := fun w' h1 h2 => by
    unfold Oper.wp
    rw [run w' h1]
    exact hK _ _ (R.quiet h2 hp ho hx (by omega) hvr hE hlt hS)
  have mark : ∀ {arr : Array Value} {Ty : TypeId} {z : Nat × Nat}, w.heap[m.blk]? = some (.cells arr Ty z) → (markStringish ⟨m.blk, A, none⟩).run P w = .ok () (w.freeze ⟨m.blk, arr.size, none⟩ 1) := fun {arr Ty z} hh => by
    simp [markStringish, World.shape?, hh]
  rcases hin with hin | ⟨n, d, t, hB⟩
  · have hex : ∃ (p' : Nat) (it' : Item) (B : ABlk), q ≤ p' ∧ its[p']? = some it' ∧ X it'.i ∧ AL T p' B ∧ b = (T p').2.1.next := by
      by_cases hh : ∃ (p' : Nat) (it' : Item) (B : ABlk), q ≤ p' ∧ its[p']? = some it' ∧ X it'.i ∧ AL T p' B ∧ b = (T p').2.1.next
      · exact hh
      · have hle := R.nextLe (p := p) (q := its.length) (by omega) (Nat.le_refl _)
        have := D.none b hin (by omega) fun p' it' B g1 g2 g3 g4 e => hh ⟨p', it', B, g1, g2, g3, g4, e⟩
        rw [this] at hm
        cases hm
    obtain ⟨p', it', B, g1, g2, g3, g4, rfl⟩ := hex
    obtain ⟨m', ob, f1, f2, f3, f4, f5⟩ := D.extra p' it' B g1 g2 g3 g4
    rw [hm] at f1
    cases f1
    cases B with
    | dead => exact absurd f3 id
    | amap es cl =>
      have e : ob = .map es cl := f3
      subst e
      refine fin w ?_ D
      simp [markStringish, World.shape?, f2]
    | cells n d t =>
      obtain ⟨r1, r2, arr, Ty, lo1, hi1, r3, r4, r5, r6⟩ := f3
      subst r3
      exact fin _ (mark f2) (R.early D g1 g2 g3 g4 hm f2)
  · obtain ⟨_, ⟨arr, Ty, lo, hi, hh, _, _⟩, _⟩ := D.hr.cells b n d t m hB hm
    exact fin _ (mark hh) (R.owned D (freeze_sound D.hr hB hm hh))

/-- Whatever is next. -/
theorem Ran.one (D : DI ρ F ops its T μ0 S0 w0 X a w q μ) (hd : Down ops X) {i : Nat} {o : Oper} (ho : ops[i]? = some o) (hx : ¬ X i) (hr : ∀ e ∈ o.after, Region.binds .any e = true → X e.on) {Q : Exit → Act → World → Prop} {K : Act → World → Prop}
    (hK : ∀ a' w' q' μ', DI ρ F ops its T μ0 S0 w0 (Plus X i) a' w' q' μ' → K a' w') : wpOp P ops Q i K a w := by
  obtain ⟨p, it, hp, rfl⟩ := R.plan.onto i (Array.getElem?_eq_some_iff.1 ho).1
  obtain ⟨wd, v, h1, h2, hE, hlt, h5⟩ := evD1_eq (R.step p it hp) ho
  have hqp := D.at hp hx
  have hpl := (List.getElem?_eq_some_iff.1 hp).1
  have hsees := R.sees D hp ho hx hd hr
  have hw : Region.wanted o (yielded ops a.tmps) = wd := wanted_sound' R.hor h1 fun j want g d u hg hj hdg hu => hsees d (by
    unfold Oper.looksAt
    simp only [hg, hj, List.mem_append]
    right
    simp [hdg]) u hu
  have har : AR ρ μ ⟨F.n, .leaf⟩ (only o F (T p).1) a := AR.only fun t ht u hu => hsees t (by
    unfold Oper.looksAt
    rw [List.mem_append]
    left
    exact List.mem_filterMap.2 ⟨.tmp t, by simpa using ht, rfl⟩) u hu
  have hcg : ∀ S, evOp C P orc F (T p).1 S o = evOp C P orc ⟨F.n, .leaf⟩ (only o F (T p).1) S o := fun S => evOp_congr fun x hx => evo_only hx
  have hbelow : it.cls = 3 → ∀ (p' : Nat) (it' : Item), p' < p → its[p']? = some it' → X it'.i := fun hc p' it' hlt' hp' => by
    obtain ⟨o', ho'⟩ := R.plan.op p' it' hp'
    exact R.before hp ho hd hr (Array.getElem?_eq_some_iff.1 ho').1 (R.plan.eff p' p it' it hlt' hp' hp hc)
  have hmem : it.cls = 3 → HR ρ μ (T p).2.1 w := fun hc => by
    obtain ⟨k, hk⟩ : ∃ k, p = q + k := ⟨p - q, by omega⟩
    rw [hk]
    exact (R.take D k (by omega) fun p' it' _ g2 g3 => hbelow hc p' it' (by omega) g3).1
  unfold wpOp
  simp only [ho, hw]
  cases wd
  · simp only [Bool.false_eq_true, if_false]
    simp only [bsel_false, Option.some.injEq, Prod.mk.injEq] at h2
    obtain ⟨rfl, hS⟩ := h2
    by_cases hc : it.cls = 3
    · refine hK _ _ _ _ (R.acts D (μ' := μ) (w' := w) hp ho hx hc (hbelow hc) undef_VR hE hlt ?_)
      rw [← hS]
      exact .refl (hmem hc)
    · exact hK _ _ _ _ (R.quiet D hp ho hx hc undef_VR hE hlt hS.symm)
  · simp only [if_true]
    left
    simp only [bsel_true, evItem] at h2
    rcases R.plan.cls p it o hp ho with ⟨hc, hk⟩ | ⟨hc, hk⟩ | ⟨hc, hk⟩ | hc | hc
    · rw [hc] at h2
      have e1 : Nat.beq 0 1 = false := rfl
      have e2 : Nat.beq 0 0 = true := rfl
      have e3 : Nat.beq 0 4 = false := rfl
      simp only [e1, e2, e3, bsel_false, bsel_true, oget_some, Option.some.injEq, Prod.mk.injEq] at h2
      obtain ⟨⟨v', S'⟩, hq, rfl, hS⟩ := h2
      rw [hcg] at hq
      obtain ⟨_, hq⟩ := P_sound R.hor hk hq
      obtain ⟨x, hx', hw'⟩ := hq har
      unfold Oper.wp
      rw [hw' w]
      exact hK _ _ _ _ (R.quiet D hp ho hx (by omega) hx' hE hlt hS.symm)
    · rw [hc] at h2
      have e1 : Nat.beq 1 1 = true := rfl
      simp only [e1, bsel_true] at h2
      split at h2
      · rename_i H l hH
        simp only [oget_some, Option.some.injEq, Prod.mk.injEq] at h2
        obtain ⟨⟨v', S'⟩, hq, _, hlook, rfl, hS⟩ := h2
        have hat : ∃ S', evOp C P orc F (T p).1 (T q).2.1 o = some (v', S') := by
          obtain ⟨c, hc1, hh⟩ := R.window D hp ho hx hd hr (.inl hc)
          rw [hH] at hh
          cases c with
          | zero =>
            simp at hh
            exact ⟨S', by rw [← hh]; exact hq⟩
          | succ c =>
            simp only [List.getElem?_cons_succ] at hh
            exact looks_sound hlook c _ (by omega) hh
        obtain ⟨S'', hq'⟩ := hat
        rw [hcg] at hq'
        obtain ⟨_, hq'⟩ := R_sound (ρ := ρ) hk hq'
        obtain ⟨x, hx', hw'⟩ := hq' har D.hr
        unfold Oper.wp
        rw [hw']
        exact hK _ _ _ _ (R.quiet D hp ho hx (by omega) hx' hE hlt hS.symm)
      · cases h2
    · rw [hc] at h2
      have e1 : Nat.beq 2 1 = false := rfl
      have e2 : Nat.beq 2 0 = false := rfl
      have e3 : Nat.beq 2 4 = false := rfl
      simp only [e1, e2, e3, bsel_false, oget_some, Option.some.injEq] at h2
      obtain ⟨q', hq, e⟩ := h2
      subst e
      rw [hcg] at hq
      rcases A_sound (ρ := ρ) hk hq with ⟨hS, hq⟩ | ⟨B, hB, hq⟩
      · obtain ⟨x, hx', hw'⟩ := hq har
        unfold Oper.wp
        rw [hw' w]
        exact hK _ _ _ _ (R.quiet D hp ho hx (by omega) hx' hE hlt hS)
      · obtain ⟨ob, m, x, w1, g1, g2, g3, g4, g5⟩ := hq har w
        unfold Oper.wp
        rw [g4]
        have hAL : AL T p B := hB
        have hnone : μ (T p).2.1.next = none := D.none _ (R.nextLe hqp (by omega)) (by
            have := hAL.next
            have := R.nextLe (p := p + 1) (q := its.length) (by omega) (Nat.le_refl _)
            omega) fun p' it' B' f1 f2 f3 f4 e => by
          have h1 := f4.next
          have h2 := hAL.next
          have hl := (List.getElem?_eq_some_iff.1 f2).1
          have hne : p' ≠ p := fun e' => by subst e'; rw [hp] at f2; cases f2; exact hx f3
          rcases Nat.lt_or_ge p' p with h | h
          · have := R.nextLe (p := p' + 1) (q := p) (by omega) (by omega); omega
          · have := R.nextLe (p := p + 1) (q := p') (by omega) (by omega); omega
        exact hK _ _ _ _ (R.makes D hp ho hx (by omega) hAL g1 g2 g3 (g5 _ (muSet_same _ _) (muSet_mono hnone)) hE hlt)
    · rw [hc] at h2
      have e1 : Nat.beq 3 1 = false := rfl
      have e2 : Nat.beq 3 0 = false := rfl
      have e3 : Nat.beq 3 4 = false := rfl
      simp only [e1, e2, e3, bsel_false, oget_some, Option.some.injEq] at h2
      obtain ⟨q', hq, e⟩ := h2
      subst e
      rw [hcg] at hq
      have hf : Fresh μ (T p).2.1 (T (p + 1)).2.1 := fun b hb hb' => D.none b (Nat.le_trans (R.nextLe hqp (by omega)) hb) (by
          have := R.nextLe (p := p + 1) (q := its.length) (by omega) (Nat.le_refl _)
          omega) fun p' it' B' f1 f2 f3 f4 e => by
        have h1 := f4.next
        have hl := (List.getElem?_eq_some_iff.1 f2).1
        have hne : p' ≠ p := fun e' => by subst e'; rw [hp] at f2; cases f2; exact hx f3
        rcases Nat.lt_or_ge p' p with h | h
        · have := R.nextLe (p := p' + 1) (q := p) (by omega) (by omega); omega
        · have := R.nextLe (p := p + 1) (q := p') (by omega) (by omega); omega
      refine op_sound R.hC R.hor hq har (hmem hc) hf fun μ' x w' hv hs => ?_
      exact hK _ _ _ _ (R.acts D hp ho hx hc (hbelow hc) hv hE hlt hs)
    · rw [hc] at h2
      have e1 : Nat.beq 4 1 = false := rfl
      have e2 : Nat.beq 4 4 = true := rfl
      simp only [e1, e2, bsel_false, bsel_true] at h2
      exact R.marks D hp ho hx hd hr hc h2 (fun x hxo v hv => by rw [evo_only hxo] at hv; exact evo_sound hv har) hE hlt fun a' w' hD => hK _ _ _ _ hD

omit R in
theorem pigeon : ∀ (n : Nat) (L : List Nat), L.Nodup → (∀ x ∈ L, x < n) → L.length ≤ n
  | 0, L, _, h => by
    cases L with
    | nil => simp
    | cons x l => exact absurd (h x (by simp)) (by omega)
  | n + 1, L, hn, h => by
    by_cases hm : n ∈ L
    · have h1 := List.length_erase_of_mem hm
      have h2 := pigeon n (L.erase n) (hn.erase n) fun x hx => by
        have h3 := (List.Nodup.mem_erase_iff hn).1 hx
        have := h x h3.2
        have := h3.1
        omega
      omega
    · have := pigeon n L hn fun x hx => by
        have := h x hx
        have : x ≠ n := fun e => hm (e ▸ hx)
        omega
      omega
omit R in
theorem pigeon_all {n : Nat} {L : List Nat} (hn : L.Nodup) (h : ∀ x ∈ L, x < n) (hl : L.length = n) {i : Nat} (hi : i < n) : i ∈ L := by
  by_cases hm : i ∈ L
  · exact hm
  · have := pigeon n (i :: L) (List.nodup_cons.2 ⟨hm, hn⟩) fun x hx => by
      rcases List.mem_cons.1 hx with rfl | hx
      · exact hi
      · exact h x hx
    simp at this
    omega

omit R in
theorem getD_set {listed : Array Bool} {i : Nat} (h : i < listed.size) (j : Nat) : ((listed.setIfInBounds i true).getD j false = true) ↔ (j = i ∨ listed.getD j false = true) := by
  by_cases e : j = i
  · subst e; simp [h]
  · simp [Array.getElem?_setIfInBounds_ne (Ne.symm e), e]

omit R in
/-- Some operation is ready unless all are listed. -/
theorem ready_some (hp : Plan P ops its anc) {listed : Array Bool} (hsz : listed.size = ops.size) (hr : Region.ready .any ops listed = []) : ∀ i, i < ops.size → listed.getD i false = true := by
  intro i
  induction i using Nat.strongRecOn with
  | _ i ih =>
    intro hi
    cases hl : listed.getD i false
    · have : i ∈ Region.ready .any ops listed := mem_ready.2 ⟨by
        have : i < listed.size := by omega
        simp [this] at hl ⊢; exact hl, ops[i], by simp, fun e he hb => by
          have := hp.edge i ops[i] (by simp) e he hb
          exact ih e.on this (by omega)⟩
      rw [hr] at this
      cases this
    · rfl

theorem Ran.any {Q : Exit → Act → World → Prop} (hK : ∀ μ' a' w', AI ρ μ' F (T its.length).1 a' → Step ρ μ0 S0 w0 μ' (T its.length).2.1 w' → Q .normal a' w') :
    ∀ (fuel : Nat) (L : List Nat) (listed : Array Bool) (a : Act) (w : World) (q : Nat) (μ : Mu), listed.size = ops.size → L.Nodup → (∀ x ∈ L, x < ops.size ∧ listed.getD x false = true) → L.length + fuel = ops.size →
      Down ops (fun i => listed.getD i false = true) → DI ρ F ops its T μ0 S0 w0 (fun i => listed.getD i false = true) a w q μ → wpAny P .any ops Q fuel listed a w := by
  intro fuel
  induction fuel with
  | zero =>
    intro L listed a w q μ hsz hnd hL hlen hd D
    have hall : ∀ i, i < ops.size → listed.getD i false = true := fun i hi => (hL i (pigeon_all hnd (fun x hx => (hL x hx).1) (by omega) hi)).2
    refine ⟨?_, ?_⟩
    · cases hr : Region.ready .any ops listed with
      | nil => rfl
      | cons x l =>
        have hx : x ∈ Region.ready .any ops listed := by rw [hr]; simp
        obtain ⟨h1, o, ho, _⟩ := mem_ready.1 hx
        have hlt := (Array.getElem?_eq_some_iff.1 ho).1
        have := hall x hlt
        have hlt' : x < listed.size := by omega
        simp [hlt'] at h1 this
        rw [h1] at this
        cases this
    · obtain ⟨h1, h2⟩ := R.finish D fun p it hp => by
        obtain ⟨o, ho⟩ := R.plan.op p it hp
        exact hall it.i (Array.getElem?_eq_some_iff.1 ho).1
      exact hK _ _ _ h1 h2
  | succ fuel ih =>
    intro L listed a w q μ hsz hnd hL hlen hd D
    refine ⟨fun hr => ?_, fun i hi => ?_⟩
    · have hall := ready_some R.plan hsz hr
      obtain ⟨h1, h2⟩ := R.finish D fun p it hp => by
        obtain ⟨o, ho⟩ := R.plan.op p it hp
        exact hall it.i (Array.getElem?_eq_some_iff.1 ho).1
      exact hK _ _ _ h1 h2
    · obtain ⟨h1, o, ho, h3⟩ := mem_ready.1 hi
      have hlt := (Array.getElem?_eq_some_iff.1 ho).1
      have hlt' : i < listed.size := by omega
      have hx : ¬ (listed.getD i false = true) := by
        simp [hlt'] at h1 ⊢
        exact h1
      refine R.one D hd ho hx h3 fun a' w' q' μ' D' => ?_
      have hX : (fun j => (listed.setIfInBounds i true).getD j false = true) = Plus (fun j => listed.getD j false = true) i := by
        funext j
        exact propext (getD_set hlt' j)
      refine ih (i :: L) _ a' w' q' μ' (by simp [hsz]) (List.nodup_cons.2 ⟨fun hm => hx (hL i hm).2, hnd⟩) (fun x hxm => ?_) (by simp; omega) ?_ (by rw [hX]; exact D')
      · rcases List.mem_cons.1 hxm with rfl | hxm
        · exact ⟨hlt, (getD_set hlt' _).2 (.inl rfl)⟩
        · exact ⟨(hL x hxm).1, (getD_set hlt' _).2 (.inr (hL x hxm).2)⟩
      · intro j oj hj hjl e he hb
        have hjl := (getD_set hlt' j).1 hjl
        refine (getD_set hlt' _).2 (.inr ?_)
        rcases hjl with rfl | hjl
        · rw [ho] at hj; cases hj; exact h3 e he hb
        · exact hd j oj hj hjl e he hb

omit R in
/-- A region whose order is open. -/
theorem draw_sound (hmix : P.follows .mixedOrders = true) (hC : HandlerOK P ρ C) (hor : ∀ c b, orc c = some b → c.den ρ = b) (hplan : planOK P ops its = true) {S S' : St} {E' : Env} {Hs : List St} {Q : Exit → Act → World → Prop} {id : Nat}
    (h : evDraw C P orc ops F its ([], S, [S]) = some (E', S', Hs)) (ha : AI ρ μ F [] a) (hm : HR ρ μ S w) (hf : Fresh μ S S') (hK : ∀ μ' a' w', AI ρ μ' F E' a' → Step ρ μ S w μ' S' w' → Q .normal a' w') : (Code.region id ops true).wp P Q a w := by
  obtain ⟨T, t1, t2, t3⟩ := draw_steps its _ _ h
  have R : Ran P ρ F C orc ops its _ T S := ⟨hC, hor, planOK_sound hplan, t1, t3⟩
  have hd0 : ∀ i, ¬ ((Array.replicate ops.size false).getD i false = true) := fun i => by
    rcases Nat.lt_or_ge i ops.size with h | h
    · simp [h]
    · simp [Array.getElem?_eq_none (show (Array.replicate ops.size false).size ≤ i by simpa using h)]
  refine wp_region_any hmix ?_
  refine R.any (μ0 := μ) (w0 := { w with drawn := w.drawn + 1 }) (Q := Q) (fun μ' a' w' h1 h2 => ?_) ops.size [] _ a _ 0 μ (by simp) List.nodup_nil (fun x hx => by cases hx) (by simp) (fun i o ho hx => absurd hx (hd0 i)) ?_
  · rw [t2] at h1 h2
    exact hK μ' a' w' h1 ((Step.drew hm).trans h2)
  · refine
     { le := Nat.zero_le _, bound := .inl rfl
       done := fun p it h => by omega
       later := fun p it _ _ _ hx => hd0 _ hx
       hr := by rw [t1]; exact hm.of_heap rfl
       size := ha.size, defers := ha.defers
       ar := fun t u hc hu => ?_
       old := fun t u _ hu => ha.ar t u hu
       extra := fun p it B _ _ hx => absurd hx (hd0 _)
       diff := fun p p' it it' B B' m m' _ _ _ _ hx => absurd hx (hd0 _)
       none := fun b h1 h2 _ => hf b (by rw [t1] at h1; exact h1) (by rw [t2] at h2; exact h2)
       ext0 := fun _ _ => rfl, mono0 := fun _ _ h => h
       size0 := Nat.le_refl _, frame0 := fun _ _ _ => rfl
       own0 := fun k hk => by rw [t1] at hk; exact .inl hk
       os0 := rfl, tape0 := rfl, output0 := rfl }
    have hk := R.keeps (t := t) (p := 0) its.length (by omega) fun r it o _ _ hr ho hd => hd0 _ (hc it.i o ho hd)
    rw [Nat.zero_add] at hk
    rw [hk, t1] at hu
    exact ha.ar t u hu
end
end Go.Abs
