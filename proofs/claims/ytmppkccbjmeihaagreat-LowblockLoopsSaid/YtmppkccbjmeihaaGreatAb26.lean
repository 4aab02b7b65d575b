/- A range over a slice from its end, each of whose rounds calls a method and may set a field of its receiver: by hand. -/
import Derived.Test.YtmppkccbjmeihaaGreatAb25
import Derived.RangeFuncRecord
namespace Go.Abs
set_option autoImplicit true
set_option relaxedAutoImplicit true
set_option linter.unusedVariables false
set_option linter.unusedSimpArgs false
set_option linter.unusedSectionVars false
open Go.RowKit

/-- The rounds that are left: k. -/
def popRun (C : Handler) (any off b i lb li : Nat) : Nat → St → Option St
  | 0, S => some S
  | k + 1, S => oget (S.load lb (li + k)) fun x => oget (C any [.ptr (some (b, i))] S) fun q =>
    match q.1, x with
    | .int .i64 t, .int .i64 n => bsel (eqI t 0) (popRun C any off b i lb li k q.2) (bsel (eqI t n) (popRun C any off b i lb li k q.2)
        (oget (q.2.stores b (i + off) [.bool true]) fun S => popRun C any off b i lb li k S))
    | _, _ => none
def popH (C : Handler) (pop any off : Nat) : Handler := fun f args S => bsel (Nat.beq f pop)
  (match args with
    | [.ptr (some (b, i)), .slice none 0 0 0] => some (.tuple [], S)
    | [.ptr (some (b, i)), .slice (some (lb, li)) n _ _] => bsel (Nat.ble n 4611686018427387904) (oget (S.alive lb) fun _ => oget (popRun C any off b i lb li n S) fun S => some (.tuple [], S)) none
    | _ => none) none

section
variable {P : Program} {ρ : Nat → Int} {μ μ₁ μ₂ : Mu} {S S₁ S₂ : St} {w w₁ w₂ : World}

/-- A block of none of ours, that came since w. -/
structure Apart (S₁ : St) (μ₁ : Mu) (w w₁ : World) (k : Nat) (o : Obj) : Prop where
  since : w.heap.size ≤ k
  mine : ¬ Owned S₁ μ₁ k
  what : w₁.heap[k]? = some o
theorem Apart.lt {k : Nat} {o : Obj} (h : Apart S₁ μ₁ w w₁ k o) : k < w₁.heap.size := (Array.getElem?_eq_some_iff.1 h.what).1
theorem Apart.step {k : Nat} {o : Obj} (h : Apart S₁ μ₁ w w₁ k o) (g : Step ρ μ₁ S₁ w₁ μ₂ S₂ w₂) : Apart S₂ μ₂ w w₂ k o := by
  have hl := h.lt
  exact ⟨h.since, fun ho => (g.own k ho).elim h.mine (fun hle => by omega), by rw [g.frame k hl h.mine]; exact h.what⟩
theorem Apart.put {k l : Nat} {o o' : Obj} (h : Apart S₁ μ₁ w w₁ k o) (hne : k ≠ l) : Apart S₁ μ₁ w (w₁.putObj l o') k o := ⟨h.since, h.mine, by rw [World.putObj_heap_other hne]; exact h.what⟩
theorem Apart.put_same {k : Nat} {o o' : Obj} (h : Apart S₁ μ₁ w w₁ k o) : Apart S₁ μ₁ w (w₁.putObj k o') k o' := ⟨h.since, h.mine, World.putObj_heap_same h.lt⟩
theorem Apart.alloc {k : Nat} {o : Obj} (h : Apart S₁ μ₁ w w₁ k o) (o' : Obj) : Apart S₁ μ₁ w (w₁.alloc o') k o := ⟨h.since, h.mine, by rw [Below.heap_alloc _ _ _ h.lt]; exact h.what⟩
theorem Step.put_apart {k : Nat} {o : Obj} (g : Step ρ μ S w μ₁ S₁ w₁) (h : Apart S₁ μ₁ w w₁ k o) (o' : Obj) : Step ρ μ S w μ₁ S₁ (w₁.putObj k o') where
  hr := by
    have h0 := g.hr
    refine ⟨fun b n d t m hb hm => ?_, fun b es cl m hb hm => ?_, h0.inj, h0.wf⟩
    · obtain ⟨h1, h2, h3⟩ := h0.cells b n d t m hb hm
      have hne : m.blk ≠ k := fun e => h.mine ⟨b, m, ⟨hm, _, hb, by simp⟩, e⟩
      refine ⟨h1, ?_, fun i v hv => ?_⟩
      · obtain ⟨arr, T, lo, hi, q⟩ := h2; exact ⟨arr, T, lo, hi, by rw [World.putObj_heap_other hne]; exact q⟩
      · obtain ⟨x, hx, hr⟩ := h3 i v hv; exact ⟨x, by rw [← hx]; exact cell_congr (World.putObj_heap_other hne) _, hr⟩
    · have hne : m.blk ≠ k := fun e => h.mine ⟨b, m, ⟨hm, _, hb, by simp⟩, e⟩
      rw [World.putObj_heap_other hne]; exact h0.maps b es cl m hb hm
  next := g.next
  ext := g.ext
  mono := g.mono
  size := by rw [World.putObj_size]; exact g.size
  frame := fun j hj hn => by
    have := h.since
    rw [World.putObj_heap_other (by omega)]; exact g.frame j hj hn
  own := g.own
  os := g.os
  tape := g.tape
  output := g.output
theorem Step.alloc_apart (g : Step ρ μ S w μ₁ S₁ w₁) (o : Obj) : Step ρ μ S w μ₁ S₁ (w₁.alloc o) ∧ Apart S₁ μ₁ w (w₁.alloc o) w₁.heap.size o := by
  have hold : ∀ k, k < w₁.heap.size → (w₁.alloc o).heap[k]? = w₁.heap[k]? := fun k hk => Below.heap_alloc _ _ _ hk
  have hs := g.size
  refine ⟨⟨⟨fun b n d t m hb hm => ?_, fun b es cl m hb hm => ?_, g.hr.inj, g.hr.wf⟩, g.next, g.ext, g.mono, by simp; omega, fun j hj hn => ?_, g.own, g.os, g.tape, g.output⟩, hs, fun ho => ?_, World.alloc_heap_new _ _⟩
  · obtain ⟨h1, h2, h3⟩ := g.hr.cells b n d t m hb hm
    have hl := h2.lt
    refine ⟨h1, ?_, fun i v hv => ?_⟩
    · obtain ⟨arr, T, lo, hi, q⟩ := h2; exact ⟨arr, T, lo, hi, by rw [hold _ hl]; exact q⟩
    · obtain ⟨x, hx, hr⟩ := h3 i v hv; exact ⟨x, by rw [← hx]; exact cell_congr (hold _ hl) _, hr⟩
  · have q := g.hr.maps b es cl m hb hm
    rw [hold _ (Array.getElem?_eq_some_iff.1 q).1]; exact q
  · rw [hold j (by omega)]; exact g.frame j hj hn
  · have := g.hr.lt ho; omega

theorem popRun_next {C : Handler} (hC : HandlerOK P ρ C) {any off b i lb li : Nat} : ∀ {k : Nat} {S S' : St}, popRun C any off b i lb li k S = some S' → S.next ≤ S'.next
  | 0, S, S', h => by cases h; exact Nat.le_refl _
  | k + 1, S, S', h => by
    simp only [popRun, oget_some] at h
    obtain ⟨x, hx, ⟨v, S1⟩, hq, h⟩ := h
    have h1 := (hC _ _ _ _ _ hq).1
    split at h
    · rw [bsel_eq] at h
      split at h
      · exact Nat.le_trans h1 (popRun_next hC h)
      · rw [bsel_eq] at h
        split at h
        · exact Nat.le_trans h1 (popRun_next hC h)
        · simp only [oget_some] at h
          obtain ⟨S2, hs, h⟩ := h
          have := stores_next hs
          have := popRun_next hC h
          omega
    · cases h
theorem popRun_after {C : Handler} (hC : HandlerOK P ρ C) {any off b i lb li k : Nat} {S2 S' : St} {v x : AVal} (h : (match v, x with
    | .int .i64 t, .int .i64 n => bsel (eqI t 0) (popRun C any off b i lb li k S2) (bsel (eqI t n) (popRun C any off b i lb li k S2)
        (oget (S2.stores b (i + off) [.bool true]) fun S => popRun C any off b i lb li k S))
    | _, _ => none) = some S') : S2.next ≤ S'.next := by
  split at h
  · rw [bsel_eq] at h
    split at h
    · exact popRun_next hC h
    · rw [bsel_eq] at h
      split at h
      · exact popRun_next hC h
      · simp only [oget_some] at h
        obtain ⟨S2, hs, h⟩ := h
        have := stores_next hs
        have := popRun_next hC h
        omega
  · cases h
end
end Go.Abs
