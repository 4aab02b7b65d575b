/- Conditions on numbers that are not known, told ahead; a table of functions; what a call of closed code comes to. -/
import Derived.Test.YtmppkccbjmeihaaGreatQe5
import Derived.Test.YtmppkccbjmeihaaGreatAb26
namespace Go.Abs
set_option autoImplicit true
set_option relaxedAutoImplicit true
set_option linter.unusedVariables false
set_option linter.unusedSimpArgs false
set_option linter.unusedSectionVars false

/-- What is told of conditions. -/
def told : List (SB × Bool) → SB → Option Bool
  | [], _ => none
  | (d, b) :: l, c => bsel (SB.same d c) (some b) (told l c)
theorem told_sound {ρ : Nat → Int} : ∀ {D : List (SB × Bool)}, (∀ q, q ∈ D → q.1.den ρ = q.2) → ∀ c b, told D c = some b → c.den ρ = b
  | [], _, c, b, h => by cases h
  | (d, b') :: l, hD, c, b, h => by
    simp only [told] at h
    rw [bsel_eq] at h
    split at h
    · rename_i hs
      rw [← SB.same_eq hs]
      cases h
      exact hD _ (List.mem_cons_self ..)
    · exact told_sound (fun q hq => hD q (List.mem_cons_of_mem _ hq)) c b h

/-! #### tables -/
inductive TrAll {α : Type} (Q : Nat → α → Prop) : (Nat → Nat) → Tr α → Prop
  | leaf (g : Nat → Nat) : TrAll Q g .leaf
  | none {g : Nat → Nat} {l r : Tr α} : TrAll Q (fun n => g (2 * n + 1)) l → TrAll Q (fun n => g (2 * n + 2)) r → TrAll Q g (.node l none r)
  | some {g : Nat → Nat} {l r : Tr α} {x : α} : TrAll Q (fun n => g (2 * n + 1)) l → Q (g 0) x → TrAll Q (fun n => g (2 * n + 2)) r → TrAll Q g (.node l (some x) r)
theorem TrAll.get {α : Type} {Q : Nat → α → Prop} {g : Nat → Nat} {t : Tr α} (h : TrAll Q g t) : ∀ n x, t.get n = Option.some x → Q (g n) x := by
  induction h with
  | leaf g => intro n x hx; rw [Tr.get_leaf] at hx; cases hx
  | none _ _ ihl ihr =>
    intro n x hx
    rcases Tr.part3 n with rfl | ⟨k, rfl⟩ | ⟨k, rfl⟩
    · cases hx
    · rw [Tr.get_odd] at hx; exact ihl k x hx
    · rw [Tr.get_even] at hx; exact ihr k x hx
  | some _ hq _ ihl ihr =>
    intro n x hx
    rcases Tr.part3 n with rfl | ⟨k, rfl⟩ | ⟨k, rfl⟩
    · cases hx; exact hq
    · rw [Tr.get_odd] at hx; exact ihl k x hx
    · rw [Tr.get_even] at hx; exact ihr k x hx

/-! #### from an empty memory -/
/-- In a world, from a memory with nothing of ours in it. -/
theorem Step.grown {ρ : Nat → Int} {μ μ' : Mu} {S S' : St} {w w' : World} (h : Step ρ μ S w μ' S' w') (he : ∀ k, ¬ Owned S μ k) : ∀ k, k < w.heap.size → w'.heap[k]? = w.heap[k]? := fun k hk => h.frame k hk (he k)
theorem empty_owned (k : Nat) : ¬ Owned ⟨.leaf, 0⟩ (fun _ => none) k := fun ⟨b, m, ⟨hm, _⟩, _⟩ => by cases hm
/-- What holds of ours in a world holds where only new blocks have come. -/
theorem HR.grow {ρ : Nat → Int} {μ : Mu} {S : St} {w w' : World} (h : HR ρ μ S w) (hs : ∀ k, k < w.heap.size → w'.heap[k]? = w.heap[k]?) : HR ρ μ S w' where
  cells := fun b n d t m hb hm => by
    obtain ⟨h1, h2, h3⟩ := h.cells b n d t m hb hm
    have hl := h2.lt
    refine ⟨h1, ?_, fun i v hv => ?_⟩
    · obtain ⟨arr, T, lo, hi, q⟩ := h2; exact ⟨arr, T, lo, hi, by rw [hs _ hl]; exact q⟩
    · obtain ⟨x, hx, hr⟩ := h3 i v hv; exact ⟨x, by rw [← hx]; exact cell_congr (hs _ hl) _, hr⟩
  maps := fun b es cl m hb hm => by
    have q := h.maps b es cl m hb hm
    rw [hs _ (Array.getElem?_eq_some_iff.1 q).1]; exact q
  inj := h.inj
  wf := h.wf

/-- A call without arguments that was seen from an empty memory to give a value: it gives it anywhere. -/
def constH (f : FuncId) (v : AVal) (B : Handler) : Handler := fun g xs S => bsel (Nat.beq g f) (match xs with | [] => some (v, S) | _ => none) (B g xs S)
theorem constH_ok {P : Program} {ρ : Nat → Int} {C B : Handler} (hC : HandlerOK P ρ C) (hB : HandlerOK P ρ B) {f : FuncId} {v : AVal} {S' : St} (h : C f [] ⟨.leaf, 0⟩ = some (v, S')) (hv : ∀ μ x, VR ρ μ v x → ∀ μ', VR ρ μ' v x) : HandlerOK P ρ (constH f v B) := fun g xs S u S1 hh => by
  unfold constH at hh
  rw [bsel_eq] at hh
  split at hh
  · rename_i hg
    have := Nat.eq_of_beq_eq_true hg
    subst this
    cases xs with
    | cons _ _ => cases hh
    | nil =>
      cases hh
      obtain ⟨h1, h2, h3⟩ := hC g [] _ _ _ h
      refine ⟨Nat.le_refl _, h2, fun μ vs w hvs hr hf => ?_⟩
      cases hvs
      refine Calls.mono (h3 (fun _ => none) [] w .nil (HR.empty w) (fun _ _ _ => rfl)) ?_
      rintro e w' ⟨x, μ', rfl, hx, hs⟩
      have hsame : ∀ k, k < w.heap.size → w'.heap[k]? = w.heap[k]? := hs.grown empty_owned
      refine ⟨x, μ, rfl, hv _ _ hx _, ?_⟩
      exact ⟨hr.grow hsame, Nat.le_refl _, fun _ _ => rfl, fun _ _ h => h, hs.size, fun k hk _ => hsame k hk, fun k hk => .inl hk, hs.os, hs.tape, hs.output⟩
  · exact hB g xs S u S1 hh
/-- A number that is known after all. -/
theorem AI.known {ρ : Nat → Int} {μ : Mu} {n : Nat} {t : Tr AVal} {a : Act} (h : AI ρ μ ⟨n, t⟩ [] a) {d : Nat} {k : IntKind} {e : SE} {m : Int} (hd : t.get d = some (.sym k e)) (he : e.den ρ = m) : AI ρ μ ⟨n, t.set d (.int k m)⟩ [] a := by
  refine ⟨fun s v hv => ?_, h.size, h.defers⟩
  have hv2 : (t.set d (.int k m)).get s = some v := hv
  clear hv
  rw [Tr.get_set] at hv2
  split at hv2
  · rename_i e1
    subst e1
    cases hv2
    have := h.ar d _ hd
    generalize a.tmps.getD d undef = x at this
    cases this
    rw [he]
    exact .int k m
  · exact h.ar s v hv2
end Go.Abs
