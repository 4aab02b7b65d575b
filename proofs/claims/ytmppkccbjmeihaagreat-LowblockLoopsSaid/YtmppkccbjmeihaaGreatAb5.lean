/- Memory: how ours stands to the machine's, and what each step keeps. -/
import Derived.Test.YtmppkccbjmeihaaGreatAb4
import Derived.Laws.IdiomCopy
import Derived.Deep.AppendSrc
namespace Go.Abs
set_option autoImplicit true
set_option relaxedAutoImplicit true
set_option linter.unusedVariables false
set_option linter.unusedSimpArgs false
set_option linter.unusedSectionVars false
open Go.RowKit

/-- Block b is there and has a place. -/
def Owns (S : St) (μ : Mu) (b : Nat) (m : Loc) : Prop := μ b = some m ∧ ∃ B, S.blk b = some B ∧ B ≠ .dead
def Owned (S : St) (μ : Mu) (k : Nat) : Prop := ∃ b m, Owns S μ b m ∧ m.blk = k

/-- The cells of a place are there, and none of them is frozen. -/
def Row (w : World) (m : Loc) : Prop := ∃ (arr : Array Value) (T : TypeId) (lo hi : Nat), w.heap[m.blk]? = some (.cells arr T (lo, hi)) ∧ (lo = hi ∨ arr.size ≤ lo) ∧ m.off + m.ext ≤ arr.size
theorem Row.cell {w : World} {m : Loc} (h : Row w m) {j : Nat} (hj : j < m.ext) : (w.cell? ⟨m.blk, m.off + j, none⟩).isSome = true := by
  obtain ⟨arr, T, lo, hi, e, _, h2⟩ := h
  simp only [World.cell?, e]
  simp; omega
theorem Row.free {w : World} {m : Loc} (h : Row w m) {j : Nat} (hj : j < m.ext) : w.frozen? ⟨m.blk, m.off + j, none⟩ = false := by
  obtain ⟨arr, T, lo, hi, e, h1, h2⟩ := h
  simp only [World.frozen?, e]
  rcases h1 with h1 | h1
  · subst h1; simp; try omega
  · simp; omega
theorem Row.lt {w : World} {m : Loc} (h : Row w m) : m.blk < w.heap.size := by
  obtain ⟨arr, T, lo, hi, e, _, _⟩ := h
  exact (Array.getElem?_eq_some_iff.1 e).1
theorem Row.setCell {w : World} {m : Loc} (h : Row w m) (a : Addr) (v : Value) : Row (w.setCell a v) m := by
  obtain ⟨arr, T, lo, hi, e, h1, h2⟩ := h
  by_cases hb : a.block = m.blk
  · refine ⟨if a.spot.isSome then arr else arr.setIfInBounds a.off v, T, lo, hi, ?_, ?_, ?_⟩
    · simp only [World.setCell, Array.getElem?_modify, hb, if_true, e, Option.map_some]
    · split <;> simpa using h1
    · split <;> simpa using h2
  · refine ⟨arr, T, lo, hi, ?_, h1, h2⟩
    simp only [World.setCell, Array.getElem?_modify, hb, if_false, e]
theorem Row.setCells {m : Loc} (b : Nat) : ∀ (vs : List Value) (o : Nat) (w : World), Row w m → Row (w.setCells b o vs) m
  | [], _, _, h => h
  | v :: r, o, w, h => Row.setCells b r (o + 1) _ (h.setCell _ _)

structure HR (ρ : Nat → Int) (μ : Mu) (S : St) (w : World) : Prop where
  cells : ∀ b n d t m, S.blk b = some (.cells n d t) → μ b = some m → n ≤ m.ext ∧ Row w m ∧
    ∀ i v, (ABlk.cells n d t).cell i = some v → ∃ x, w.cell? ⟨m.blk, m.off + i, none⟩ = some x ∧ VR ρ μ v x
  maps : ∀ b es cl m, S.blk b = some (.amap es cl) → μ b = some m → w.heap[m.blk]? = some (.map es cl)
  inj : ∀ b b' m m', Owns S μ b m → Owns S μ b' m' → m.blk = m'.blk → b = b'
  wf : ∀ b, S.next ≤ b → S.blk b = none

theorem HR.lt {ρ : Nat → Int} {μ : Mu} {S : St} {w : World} (h : HR ρ μ S w) {k : Nat} (ho : Owned S μ k) : k < w.heap.size := by
  obtain ⟨b, m, ⟨hm, B, hB, hd⟩, rfl⟩ := ho
  cases B with
  | cells n d t => exact (h.cells b n d t m hB hm).2.1.lt
  | amap es cl => exact (Array.getElem?_eq_some_iff.1 (h.maps b es cl m hB hm)).1
  | dead => exact absurd rfl hd

/-- What a step of the machine keeps. -/
structure Step (ρ : Nat → Int) (μ : Mu) (S : St) (w : World) (μ' : Mu) (S' : St) (w' : World) : Prop where
  hr : HR ρ μ' S' w'
  next : S.next ≤ S'.next
  ext : ∀ b, b < S.next ∨ S'.next ≤ b → μ' b = μ b
  mono : ∀ b m, μ b = some m → μ' b = some m
  size : w.heap.size ≤ w'.heap.size
  frame : ∀ k, k < w.heap.size → ¬ Owned S μ k → w'.heap[k]? = w.heap[k]?
  own : ∀ k, Owned S' μ' k → Owned S μ k ∨ w.heap.size ≤ k
  os : w'.os = w.os
  tape : w'.tape = w.tape
  output : w'.output = w.output

/-- None of the numbers that are given out has a place yet. -/
def Fresh (μ : Mu) (S S' : St) : Prop := ∀ b, S.next ≤ b → b < S'.next → μ b = none

section
variable {ρ : Nat → Int} {μ μ₁ μ₂ : Mu} {S S₁ S₂ : St} {w w₁ w₂ : World}
theorem Step.refl (h : HR ρ μ S w) : Step ρ μ S w μ S w := ⟨h, Nat.le_refl _, fun _ _ => rfl, fun _ _ h => h, Nat.le_refl _, fun _ _ _ => rfl, fun _ h => .inl h, rfl, rfl, rfl⟩
theorem Step.trans (h : Step ρ μ S w μ₁ S₁ w₁) (g : Step ρ μ₁ S₁ w₁ μ₂ S₂ w₂) : Step ρ μ S w μ₂ S₂ w₂ where
  hr := g.hr
  next := Nat.le_trans h.next g.next
  ext := fun b hb => by
    have h1 := h.next
    have h2 := g.next
    rw [g.ext b (by rcases hb with hb | hb <;> omega), h.ext b (by rcases hb with hb | hb <;> omega)]
  mono := fun b m hm => g.mono b m (h.mono b m hm)
  size := Nat.le_trans h.size g.size
  frame := fun k hk hn => by
    have hs := h.size
    rw [g.frame k (by omega) (fun ho => (h.own k ho).elim hn (fun hle => by omega)), h.frame k hk hn]
  own := fun k hk => by
    have hs := h.size
    exact (g.own k hk).elim (h.own k) (fun hle => .inr (by omega))
  os := g.os.trans h.os
  tape := g.tape.trans h.tape
  output := g.output.trans h.output
theorem Fresh.left (h : Fresh μ S S₂) (h₁ : S.next ≤ S₁.next) (h₂ : S₁.next ≤ S₂.next) : Fresh μ S S₁ := fun b hb hb' => h b hb (Nat.lt_of_lt_of_le hb' h₂)
theorem Fresh.right (h : Fresh μ S S₂) (hs : Step ρ μ S w μ₁ S₁ w₁) : Fresh μ₁ S₁ S₂ := fun b hb hb' => by
  rw [hs.ext b (.inr hb)]; exact h b (Nat.le_trans hs.next hb) hb'
theorem Fresh.same (h : S.next = S₁.next) : Fresh μ S S₁ := fun b hb hb' => by omega

theorem cell_congr (h : w₁.heap[k]? = w.heap[k]?) (o : Nat) : w₁.cell? ⟨k, o, none⟩ = w.cell? ⟨k, o, none⟩ := by simp only [World.cell?, h]

/-- Only what is asked of the heap counts. -/
theorem HR.of_heap (h : HR ρ μ S w) (e : w₁.heap = w.heap) : HR ρ μ S w₁ where
  cells := fun b n d t m hb hm => by
    obtain ⟨h2, h3, h4⟩ := h.cells b n d t m hb hm
    refine ⟨h2, ?_, fun i v hv => ?_⟩
    · obtain ⟨arr, T, lo, hi, q⟩ := h3; exact ⟨arr, T, lo, hi, by rw [e]; exact q⟩
    · obtain ⟨x, hx, hr⟩ := h4 i v hv; exact ⟨x, by rw [← hx]; exact cell_congr (by rw [e]) _, hr⟩
  maps := fun b es cl m hb hm => by rw [e]; exact h.maps b es cl m hb hm
  inj := h.inj
  wf := h.wf
theorem Step.drew (h : HR ρ μ S w) : Step ρ μ S w μ S w.drew := ⟨h.of_heap rfl, Nat.le_refl _, fun _ _ => rfl, fun _ _ h => h, Nat.le_refl _, fun _ _ _ => rfl, fun _ h => .inl h, rfl, rfl, rfl⟩

/-! #### reading -/
theorem load_sound (h : HR ρ μ S w) {b i : Nat} {v : AVal} {m : Loc} (hl : S.load b i = some v) (hm : μ b = some m) : ∃ x, w.cell? ⟨m.blk, m.off + i, none⟩ = some x ∧ VR ρ μ v x := by
  simp only [St.load, oget_some] at hl
  obtain ⟨B, hB, hc⟩ := hl
  cases B with
  | cells n d t => exact (h.cells b n d t m hB hm).2.2 i v hc
  | amap es cl => simp [ABlk.cell] at hc
  | dead => simp [ABlk.cell] at hc
theorem cellsFrom_get {B : ABlk} : ∀ (n i : Nat) (l : List AVal), cellsFrom B i n = some l → l.length = n ∧ ∀ j v, l[j]? = some v → B.cell (i + j) = some v
  | 0, i, l, h => by cases h; simp
  | n + 1, i, l, h => by
    simp only [cellsFrom, oget_some] at h
    obtain ⟨v, hv, l', hl, e⟩ := h
    cases e
    obtain ⟨h1, h2⟩ := cellsFrom_get n (i + 1) l' hl
    refine ⟨by simp [h1], fun j u hu => ?_⟩
    cases j with
    | zero => simp at hu; subst hu; simpa using hv
    | succ j => simp at hu; have := h2 j u hu; rwa [show i + 1 + j = i + (j + 1) by omega] at this
theorem VRs.of_get {l : List AVal} (f : Nat → Value) (h : ∀ j v, l[j]? = some v → VR ρ μ v (f j)) : ∃ r : List Value, VRs ρ μ l r ∧ ∀ j, j < l.length → r[j]? = some (f j) := by
  induction l generalizing f with
  | nil => exact ⟨[], .nil, fun j hj => by simp at hj⟩
  | cons v l ih =>
    obtain ⟨r, h1, h2⟩ := ih (fun j => f (j + 1)) (fun j u hu => h (j + 1) u (by simpa using hu))
    refine ⟨f 0 :: r, .cons _ _ _ _ (h 0 v rfl) h1, fun j hj => ?_⟩
    cases j with
    | zero => rfl
    | succ j => simpa using h2 j (by simpa using hj)
theorem loads_sound (h : HR ρ μ S w) {b i n : Nat} {l : List AVal} {m : Loc} (hl : S.loads b i n = some l) (hm : μ b = some m) :
    l.length = n ∧ ∃ r : List Value, VRs ρ μ l r ∧ r.length = n ∧ ∀ j x, r[j]? = some x → w.cell? ⟨m.blk, m.off + i + j, none⟩ = some x := by
  simp only [St.loads, oget_some] at hl
  obtain ⟨B, hB, hc⟩ := hl
  obtain ⟨h1, h2⟩ := cellsFrom_get n i l hc
  refine ⟨h1, ?_⟩
  have key : ∀ j v, l[j]? = some v → ∃ x, w.cell? ⟨m.blk, m.off + i + j, none⟩ = some x ∧ VR ρ μ v x := fun j v hv => by
    have := load_sound h (b := b) (i := i + j) (v := v) (by simp only [St.load, oget_some]; exact ⟨B, hB, h2 j v hv⟩) hm
    rwa [← Nat.add_assoc] at this
  obtain ⟨r, hr, hg⟩ := VRs.of_get (ρ := ρ) (μ := μ) (l := l) (fun j => (w.cell? ⟨m.blk, m.off + i + j, none⟩).getD undef) (fun j v hv => by obtain ⟨x, hx, hv'⟩ := key j v hv; rw [hx]; exact hv')
  have hlen := hr.length
  refine ⟨r, hr, by omega, fun j x hx => ?_⟩
  have hj : j < l.length := by have := (List.getElem?_eq_some_iff.1 hx).1; omega
  rw [hg j hj] at hx
  obtain ⟨y, hy, _⟩ := key j l[j] (List.getElem?_eq_getElem hj)
  rw [hy] at hx
  simp at hx
  rw [hy, hx]

/-! #### writing -/
theorem cell_cells (n : Nat) (d : AVal) (t : Tr AVal) (i : Nat) : (ABlk.cells n d t).cell i = if i < n then some ((t.get i).getD d) else none := by
  simp only [ABlk.cell]
  by_cases h : i < n
  · rw [(blt_eq i n).2 h, if_pos h, bsel_true]; cases t.get i <;> rfl
  · rw [if_neg h, Bool.eq_false_iff.2 (fun e => h ((blt_eq _ _).1 e)), bsel_false]
theorem setCell_eq {B B' : ABlk} {i : Nat} {v : AVal} (h : B.setCell i v = some B') : ∃ n d t, B = .cells n d t ∧ i < n ∧ B' = .cells n d (t.set i v) := by
  cases B with
  | cells n d t =>
    obtain ⟨a, b, c, e⟩ := Tr.set_node t i v
    simp only [ABlk.setCell, bsel_none, e] at h
    obtain ⟨h1, h2⟩ := h
    cases h2
    exact ⟨n, d, t, rfl, (blt_eq _ _).1 h1, by rw [e]⟩
  | amap es cl => simp [ABlk.setCell] at h
  | dead => simp [ABlk.setCell] at h
theorem setCells_eq : ∀ (l : List AVal) (i : Nat) {B B' : ABlk}, setCells B i l = some B' → B ≠ .dead → (∀ es cl, B ≠ .amap es cl) → ∃ n d t t', B = .cells n d t ∧ B' = .cells n d t' ∧ (l = [] ∨ i + l.length ≤ n) ∧
    ∀ j, (ABlk.cells n d t').cell j = if i ≤ j ∧ j < i + l.length then l[j - i]? else (ABlk.cells n d t).cell j
  | [], i, B, B', h, hd, hm => by
    cases h
    cases B with
    | cells n d t => exact ⟨n, d, t, t, rfl, rfl, .inl rfl, fun j => by rw [if_neg (by simp only [List.length_nil]; omega)]⟩
    | amap es cl => exact absurd rfl (hm es cl)
    | dead => exact absurd rfl hd
  | v :: l, i, B, B', h, hd, hm => by
    simp only [setCells, oget_some] at h
    obtain ⟨B1, h1, h2⟩ := h
    obtain ⟨n, d, t, rfl, hi, rfl⟩ := setCell_eq h1
    obtain ⟨n', d', t1, t', e1, rfl, hl, hc⟩ := setCells_eq l (i + 1) h2 (by simp) (by simp)
    cases e1
    refine ⟨n, d, t, t', rfl, rfl, .inr ?_, fun j => ?_⟩
    · rcases hl with hl | hl
      · subst hl; simp; omega
      · simp; omega
    · rw [hc j]
      by_cases hj : i + 1 ≤ j ∧ j < i + 1 + l.length
      · rw [if_pos hj, if_pos (by simp; omega)]
        obtain ⟨k, rfl⟩ : ∃ k, j = i + 1 + k := ⟨j - (i + 1), by omega⟩
        rw [show i + 1 + k - (i + 1) = k by omega, show i + 1 + k - i = k + 1 by omega]; simp
      · rw [if_neg hj]
        by_cases e : j = i
        · subst e
          rw [if_pos (by simp), cell_cells, if_pos hi, Tr.get_set, if_pos rfl]; simp
        · rw [if_neg (by simp; omega)]
          simp only [cell_cells, Tr.get_set]
          rw [if_neg (show ¬ i = j from fun h => e h.symm)]
theorem setCells_nil {B B' : ABlk} {i : Nat} (h : setCells B i [] = some B') : B' = B := by cases h; rfl

theorem cell_setCells (b : Nat) : ∀ (vs : List Value) (o : Nat) (w : World) (k j : Nat), (∀ i, i < vs.length → (w.cell? ⟨b, o + i, none⟩).isSome = true) →
    (w.setCells b o vs).cell? ⟨k, j, none⟩ = if k = b ∧ o ≤ j ∧ j < o + vs.length then vs[j - o]? else w.cell? ⟨k, j, none⟩
  | [], o, w, k, j, _ => by simp [World.setCells]; intro _ h1 h2; omega
  | v :: r, o, w, k, j, hc => by
    obtain ⟨u, hu⟩ := Option.isSome_iff_exists.1 (hc 0 (by simp))
    simp only [Nat.add_zero] at hu
    have hc' : ∀ i, i < r.length → ((w.setCell ⟨b, o, none⟩ v).cell? ⟨b, o + 1 + i, none⟩).isSome = true := fun i hi => by
      rw [World.cell?_setCell_other _ _ _ _ (by simp; omega)]
      have := hc (i + 1) (by simp; omega)
      rwa [show o + 1 + i = o + (i + 1) by omega]
    simp only [World.setCells]
    rw [cell_setCells b r (o + 1) _ k j hc']
    by_cases hk : k = b
    · subst hk
      by_cases h1 : o + 1 ≤ j ∧ j < o + 1 + r.length
      · rw [if_pos ⟨rfl, h1⟩, if_pos ⟨rfl, by omega, by simp; omega⟩]
        obtain ⟨i, rfl⟩ : ∃ i, j = o + 1 + i := ⟨j - (o + 1), by omega⟩
        rw [show o + 1 + i - (o + 1) = i by omega, show o + 1 + i - o = i + 1 by omega]; simp
      · rw [if_neg (fun h => h1 h.2)]
        by_cases e : j = o
        · subst e
          rw [if_pos ⟨rfl, Nat.le_refl _, by simp⟩, World.cell?_setCell_same _ _ _ hu]; simp
        · rw [if_neg (fun h => by have := h.2; simp at this; omega), World.cell?_setCell_other _ _ _ _ (by simp; omega)]
    · rw [if_neg (fun h => hk h.1), if_neg (fun h => hk h.1), World.cell?_setCell_other _ _ _ _ (by simp; intro h; exact absurd h.symm hk)]
theorem heap_setCells (b : Nat) : ∀ (vs : List Value) (o : Nat) (w : World) (k : Nat), k ≠ b → (w.setCells b o vs).heap[k]? = w.heap[k]?
  | [], _, _, _, _ => rfl
  | v :: r, o, w, k, h => by
    simp only [World.setCells]
    rw [heap_setCells b r (o + 1) _ k h, Below.heap_setCell _ _ _ _ (by simpa using h)]
theorem os_setCells (b : Nat) : ∀ (vs : List Value) (o : Nat) (w : World), (w.setCells b o vs).os = w.os ∧ (w.setCells b o vs).tape = w.tape ∧ (w.setCells b o vs).output = w.output ∧ (w.setCells b o vs).heap.size = w.heap.size
  | [], _, _ => ⟨rfl, rfl, rfl, rfl⟩
  | v :: r, o, w => by
    obtain ⟨h1, h2, h3, h4⟩ := os_setCells b r (o + 1) (w.setCell ⟨b, o, none⟩ v)
    exact ⟨h1, h2, h3, by simp only [World.setCells]; rw [h4]; simp⟩

/-- Cells that are written. -/
theorem stores_sound (h : HR ρ μ S w) {b i : Nat} {l : List AVal} {r : List Value} {m : Loc} (hs : S.stores b i l = some S₁) (hm : μ b = some m) (hr : VRs ρ μ l r) :
    (∀ j, j < r.length → (w.cell? ⟨m.blk, m.off + i + j, none⟩).isSome = true) ∧ (∀ j, j < r.length → w.frozen? ⟨m.blk, m.off + i + j, none⟩ = false) ∧
      Step ρ μ S w μ S₁ (w.setCells m.blk (m.off + i) r) ∧ S₁.next = S.next := by
  simp only [St.stores, oget_some] at hs
  obtain ⟨B, hB, B', hB', hs⟩ := hs
  rw [St.setBlk_eq] at hs
  cases hs
  have hlen := hr.length
  cases l with
  | nil =>
    cases hr
    cases hB'
    refine ⟨fun j hj => by simp at hj, fun j hj => by simp at hj, ?_, rfl⟩
    have hsame : ∀ c, St.blk ⟨S.heap.set b B, S.next⟩ c = S.blk c := fun c => by
      rw [St.blk_set]; by_cases e : b = c
      · subst e; rw [if_pos rfl]; exact hB.symm
      · rw [if_neg e]; rfl
    have hown : ∀ c m', Owns ⟨S.heap.set b B, S.next⟩ μ c m' → Owns S μ c m' := fun c m' ⟨h1, X, h2, h3⟩ => ⟨h1, X, by rw [← hsame]; exact h2, h3⟩
    refine ⟨⟨fun c n d t m' hc => h.cells c n d t m' (by rw [← hsame]; exact hc), fun c es cl m' hc => h.maps c es cl m' (by rw [← hsame]; exact hc), fun c c' m1 m2 h1 h2 => h.inj c c' m1 m2 (hown _ _ h1) (hown _ _ h2), fun c hc => by rw [hsame]; exact h.wf c hc⟩,
      Nat.le_refl _, fun _ _ => rfl, fun _ _ h => h, Nat.le_refl _, fun _ _ _ => rfl, fun k ⟨c, m', ho, e⟩ => .inl ⟨c, m', hown _ _ ho, e⟩, rfl, rfl, rfl⟩
  | cons a l' =>
    have hnd : B ≠ .dead := by intro e; subst e; simp [setCells, ABlk.setCell, oget] at hB'
    have hnm : ∀ es cl, B ≠ .amap es cl := by intro es cl e; subst e; simp [setCells, ABlk.setCell, oget] at hB'
    obtain ⟨n, d, t, t', rfl, rfl, hl, hc⟩ := setCells_eq _ _ hB' hnd hnm
    obtain ⟨h2, h3, h4⟩ := h.cells b n d t m hB hm
    have hle : i + (a :: l').length ≤ n := by rcases hl with hl | hl; · cases hl
                                              · exact hl
    have hcell : ∀ j, j < r.length → (w.cell? ⟨m.blk, m.off + i + j, none⟩).isSome = true := fun j hj => by
      have := h3.cell (j := i + j) (by omega); rwa [← Nat.add_assoc] at this
    have hfree : ∀ j, j < r.length → w.frozen? ⟨m.blk, m.off + i + j, none⟩ = false := fun j hj => by
      have := h3.free (j := i + j) (by omega); rwa [← Nat.add_assoc] at this
    refine ⟨hcell, hfree, ?_, rfl⟩
    obtain ⟨q1, q2, q3, q4⟩ := os_setCells m.blk r (m.off + i) w
    have hown : ∀ c m', Owns ⟨S.heap.set b (.cells n d t'), S.next⟩ μ c m' → Owns S μ c m' := fun c m' ⟨h1, X, h2, h3⟩ => by
      rw [St.blk_set] at h2
      by_cases e : b = c
      · subst e; exact ⟨h1, _, hB, by simp⟩
      · rw [if_neg e] at h2; exact ⟨h1, X, h2, h3⟩
    refine ⟨⟨fun c n' d' tt m' hcb hm' => ?_, fun c es' cl m' hcb hm' => ?_, fun c c' m1 m2 h1 h2 => h.inj c c' m1 m2 (hown _ _ h1) (hown _ _ h2), fun c hc => by
        rw [St.blk_set]
        by_cases e : b = c
        · subst e; have := h.wf b hc; rw [hB] at this; cases this
        · rw [if_neg e]; exact h.wf c hc⟩,
      Nat.le_refl _, fun _ _ => rfl, fun _ _ h => h, by rw [q4]; exact Nat.le_refl _, fun k hk hn => heap_setCells _ _ _ _ _ (fun e => hn ⟨b, m, ⟨hm, _, hB, by simp⟩, e.symm⟩), fun k ⟨c, m', ho, e⟩ => .inl ⟨c, m', hown _ _ ho, e⟩, q1, q2, q3⟩
    · rw [St.blk_set] at hcb
      by_cases e : b = c
      · subst e
        rw [if_pos rfl] at hcb
        cases hcb
        rw [hm] at hm'
        cases hm'
        refine ⟨h2, h3.setCells _ _ _ _, fun j v hv => ?_⟩
        rw [hc j] at hv
        rw [cell_setCells _ _ _ _ _ _ hcell]
        by_cases hj : i ≤ j ∧ j < i + (a :: l').length
        · rw [if_pos hj] at hv
          rw [if_pos ⟨rfl, by omega, by omega⟩]
          obtain ⟨x, hx, hv'⟩ := hr.get hv
          exact ⟨x, by rw [← hx]; congr 1; omega, hv'⟩
        · rw [if_neg hj] at hv
          rw [if_neg (fun h => hj ⟨by omega, by omega⟩)]
          exact h4 j v hv
      · rw [if_neg e] at hcb
        obtain ⟨g2, g3, g4⟩ := h.cells c n' d' tt m' hcb hm'
        have hne : m'.blk ≠ m.blk := fun e' => e (h.inj b c m m' ⟨hm, _, hB, by simp⟩ ⟨hm', _, hcb, by simp⟩ e'.symm)
        refine ⟨g2, g3.setCells _ _ _ _, fun j v hv => ?_⟩
        rw [cell_setCells _ _ _ _ _ _ hcell, if_neg (fun h => hne h.1)]
        exact g4 j v hv
    · rw [St.blk_set] at hcb
      by_cases e : b = c
      · subst e; rw [if_pos rfl] at hcb; cases hcb
      · rw [if_neg e] at hcb
        have hne : m'.blk ≠ m.blk := fun e' => e (h.inj b c m m' ⟨hm, _, hB, by simp⟩ ⟨hm', _, hcb, by simp⟩ e'.symm)
        rw [heap_setCells _ _ _ _ _ hne]
        exact h.maps c es' cl m' hcb hm'

/-! #### new blocks -/
/-- A new block: of cells (that lie first in the machine's own), or a map. -/
def NewOK (ρ : Nat → Int) (μ : Mu) (B : ABlk) (o : Obj) (m : Loc) : Prop :=
  match B with
  | .cells n d t => m.off = 0 ∧ n ≤ m.ext ∧ ∃ (arr : Array Value) (T : TypeId) (lo hi : Nat), o = .cells arr T (lo, hi) ∧ (lo = hi ∨ arr.size ≤ lo) ∧ m.ext ≤ arr.size ∧
      ∀ i v, (ABlk.cells n d t).cell i = some v → ∃ x, arr[i]? = some x ∧ VR ρ μ v x
  | .amap es cl => o = .map es cl
  | .dead => False
def muSet (μ : Mu) (b : Nat) (m : Loc) : Mu := fun c => if c = b then some m else μ c
theorem muSet_same (b : Nat) (m : Loc) : muSet μ b m b = some m := by simp [muSet]
theorem muSet_mono {b : Nat} {m : Loc} (h : μ b = none) : ∀ c m', μ c = some m' → muSet μ b m c = some m' := fun c m' hc => by
  unfold muSet
  rw [if_neg (fun e => by subst e; rw [h] at hc; cases hc)]; exact hc

theorem new_sound (h : HR ρ μ S w) {B : ABlk} {o : Obj} {m : Loc} (hn : S.new B = some (b, S₁)) (hf : Fresh μ S S₁) (hb : m.blk = w.heap.size) (hok : NewOK ρ μ B o m) :
    b = S.next ∧ S₁.next = S.next + 1 ∧ Step ρ μ S w (muSet μ b m) S₁ (w.alloc o) := by
  rw [St.new_eq] at hn
  cases hn
  refine ⟨rfl, rfl, ?_⟩
  have hnone : μ S.next = none := hf S.next (Nat.le_refl _) (Nat.lt_succ_self _)
  have hmono := muSet_mono (m := m) hnone
  have hB0 : B ≠ .dead := by intro e; subst e; exact hok
  have hown : ∀ c m', Owns ⟨S.heap.set S.next B, S.next + 1⟩ (muSet μ S.next m) c m' → (c = S.next ∧ m' = m) ∨ (c ≠ S.next ∧ Owns S μ c m') := fun c m' ⟨h1, X, h2, h3⟩ => by
    rw [St.blk_set] at h2
    by_cases e : c = S.next
    · subst e
      rw [muSet_same] at h1
      cases h1
      exact .inl ⟨rfl, rfl⟩
    · rw [if_neg (fun h => e h.symm)] at h2
      unfold muSet at h1
      rw [if_neg e] at h1
      exact .inr ⟨e, h1, X, h2, h3⟩
  have hold : ∀ k, k < w.heap.size → (w.alloc o).heap[k]? = w.heap[k]? := fun k hk => Below.heap_alloc _ _ _ hk
  have hnew : (w.alloc o).heap[m.blk]? = some o := by
    rw [hb]
    show (w.heap.push o)[w.heap.size]? = some o
    rw [Array.getElem?_push, if_pos rfl]
  refine ⟨⟨fun c n d t m' hc hm' => ?_, fun c es cl m' hc hm' => ?_, fun c c' m1 m2 h1 h2 e => ?_, fun c hc => by
      have hc' : S.next + 1 ≤ c := hc
      rw [St.blk_set, if_neg (by omega)]; exact h.wf c (by omega)⟩, Nat.le_succ _, fun c hc => ?_, hmono, by simp, fun k hk _ => hold k hk, fun k ⟨c, m', ho, e⟩ => ?_, rfl, rfl, rfl⟩
  · rw [St.blk_set] at hc
    by_cases e : c = S.next
    · subst e
      rw [if_pos rfl] at hc
      cases hc
      rw [muSet_same] at hm'
      cases hm'
      obtain ⟨q1, q3, arr, T, lo, hi, q4, q5, q6, q7⟩ := hok
      have hcell : ∀ i, (w.alloc o).cell? ⟨m.blk, m.off + i, none⟩ = arr[i]? := fun i => by
        subst q4
        simp only [World.cell?, hnew, q1, Nat.zero_add]
        rfl
      refine ⟨q3, ⟨arr, T, lo, hi, by rw [hnew, q4], q5, by omega⟩, fun i v hv => ?_⟩
      obtain ⟨x, hx, hv'⟩ := q7 i v hv
      exact ⟨x, by rw [hcell]; exact hx, hv'.mono hmono⟩
    · rw [if_neg (fun h => e h.symm)] at hc
      unfold muSet at hm'
      rw [if_neg e] at hm'
      obtain ⟨g2, g3, g4⟩ := h.cells c n d t m' hc hm'
      have hlt := g3.lt
      refine ⟨g2, ?_, fun i v hv => ?_⟩
      · obtain ⟨arr, T, lo, hi, q⟩ := g3; exact ⟨arr, T, lo, hi, by rw [hold _ hlt]; exact q⟩
      · obtain ⟨x, hx, hv'⟩ := g4 i v hv
        exact ⟨x, by rw [← hx]; exact cell_congr (hold _ hlt) _, hv'.mono hmono⟩
  · rw [St.blk_set] at hc
    by_cases e : c = S.next
    · subst e
      rw [if_pos rfl] at hc
      cases hc
      rw [muSet_same] at hm'
      cases hm'
      have q : o = .map es cl := hok
      rw [hnew, q]
    · rw [if_neg (fun h => e h.symm)] at hc
      unfold muSet at hm'
      rw [if_neg e] at hm'
      have g := h.maps c es cl m' hc hm'
      rw [hold _ (Array.getElem?_eq_some_iff.1 g).1]; exact g
  · rcases hown _ _ h1 with ⟨rfl, rfl⟩ | ⟨_, g1⟩ <;> rcases hown _ _ h2 with ⟨e2, e3⟩ | ⟨_, g2⟩
    · exact e2.symm
    · have := h.lt ⟨_, _, g2, rfl⟩; omega
    · subst e2; subst e3; have := h.lt ⟨_, _, g1, rfl⟩; omega
    · exact h.inj _ _ _ _ g1 g2 e
  · unfold muSet
    have hc' : c < S.next ∨ S.next + 1 ≤ c := hc
    rw [if_neg (by omega)]
  · rcases hown _ _ ho with ⟨rfl, rfl⟩ | ⟨_, g⟩
    · exact .inr (by omega)
    · exact .inl ⟨c, m', g, e⟩

theorem trOf_get : ∀ (l : List AVal) (i : Nat) (t : Tr AVal) (j : Nat), (trOf i t l).get j = if i ≤ j ∧ j < i + l.length then l[j - i]? else t.get j
  | [], i, t, j => by rw [if_neg (by simp only [List.length_nil]; omega)]; rfl
  | v :: l, i, t, j => by
    show (trOf (i + 1) (t.set i v) l).get j = _
    rw [trOf_get l (i + 1) _ j, Tr.get_set]
    by_cases h : i + 1 ≤ j ∧ j < i + 1 + l.length
    · rw [if_pos h, if_pos (by simp only [List.length_cons]; omega)]
      obtain ⟨k, rfl⟩ : ∃ k, j = i + 1 + k := ⟨j - (i + 1), by omega⟩
      rw [show i + 1 + k - (i + 1) = k by omega, show i + 1 + k - i = k + 1 by omega]; simp
    · rw [if_neg h]
      by_cases e : i = j
      · subst e; rw [if_pos rfl, if_pos (by simp only [List.length_cons]; omega)]; simp
      · rw [if_neg e, if_neg (by simp only [List.length_cons]; omega)]
theorem mkCells_cell (l : List AVal) (i : Nat) : (mkCells l).cell i = l[i]? := by
  unfold mkCells
  rw [forceN_eq, cell_cells, trOf_get]
  by_cases h : i < l.length
  · rw [if_pos h, if_pos (by omega), Nat.sub_zero, List.getElem?_eq_getElem h]; rfl
  · rw [if_neg h, List.getElem?_eq_none (by omega)]
/-- A block of these cells, and more behind them. -/
theorem NewOK.mk {l : List AVal} {r rest : List Value} (hr : VRs ρ μ l r) (T : TypeId) (lo hi : Nat) (hz : lo = hi ∨ r.length + rest.length ≤ lo) (k : Nat) :
    NewOK ρ μ (mkCells l) (.cells (r ++ rest).toArray T (lo, hi)) ⟨k, 0, r.length + rest.length⟩ := by
  have hc := mkCells_cell l
  have hlen := hr.length
  unfold mkCells at hc ⊢
  rw [forceN_eq] at hc ⊢
  refine ⟨rfl, by show l.length ≤ r.length + rest.length; omega, _, T, lo, hi, rfl, by simpa using hz, by simp, fun i v hv => ?_⟩
  rw [hc i] at hv
  obtain ⟨x, hx, hv'⟩ := hr.get hv
  exact ⟨x, by
    have hi' := (List.getElem?_eq_some_iff.1 hx).1
    simp only [List.getElem?_toArray]
    rw [List.getElem?_append_left hi']; exact hx, hv'⟩
/-- A block that is let go. -/
theorem kill_sound (h : HR ρ μ S w) {b : Nat} {B : ABlk} (hB : S.blk b = some B) (hk : S.setBlk b .dead = some S₁) : Step ρ μ S w μ S₁ w ∧ S₁.next = S.next := by
  rw [St.setBlk_eq] at hk
  cases hk
  have hown : ∀ c m', Owns ⟨S.heap.set b .dead, S.next⟩ μ c m' → Owns S μ c m' := fun c m' ⟨h1, X, h2, h3⟩ => by
    rw [St.blk_set] at h2
    by_cases e : b = c
    · subst e; rw [if_pos rfl] at h2; cases h2; exact absurd rfl h3
    · rw [if_neg e] at h2; exact ⟨h1, X, h2, h3⟩
  refine ⟨⟨⟨fun c n d t m' hc => ?_, fun c es cl m' hc => ?_, fun c c' m1 m2 h1 h2 => h.inj c c' m1 m2 (hown _ _ h1) (hown _ _ h2), fun c hc => by
        rw [St.blk_set]
        by_cases e : b = c
        · subst e; have := h.wf b hc; rw [hB] at this; cases this
        · rw [if_neg e]; exact h.wf c hc⟩, Nat.le_refl _, fun _ _ => rfl, fun _ _ h => h, Nat.le_refl _, fun _ _ _ => rfl, fun k ⟨c, m', ho, e⟩ => .inl ⟨c, m', hown _ _ ho, e⟩, rfl, rfl, rfl⟩, rfl⟩
  · rw [St.blk_set] at hc
    by_cases e : b = c
    · rw [if_pos e] at hc; cases hc
    · rw [if_neg e] at hc; exact h.cells c n d t m' hc
  · rw [St.blk_set] at hc
    by_cases e : b = c
    · rw [if_pos e] at hc; cases hc
    · rw [if_neg e] at hc; exact h.maps c es cl m' hc
end
end Go.Abs
