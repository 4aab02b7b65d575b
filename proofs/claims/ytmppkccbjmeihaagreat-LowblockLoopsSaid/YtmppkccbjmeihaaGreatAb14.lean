/- append, copy: sound. -/
import Derived.Test.YtmppkccbjmeihaaGreatAb13
namespace Go.Abs
set_option autoImplicit true
set_option relaxedAutoImplicit true
set_option linter.unusedVariables false
set_option linter.unusedSimpArgs false
set_option linter.unusedSectionVars false
open Go.RowKit

section
variable {P : Program} {ρ : Nat → Int} {μ : Mu} {F : Fr} {E : Env} {a : Act} {S S' S₁ : St} {C : Handler} {orc : SB → Option Bool} {w : World}

theorem bytes_VRs (b : ByteArray) : VRs ρ μ (bytesOfStr b) (byteCells b) := by
  unfold bytesOfStr byteCells
  generalize b.data.toList = L
  induction L with
  | nil => exact .nil
  | cons y L ih => exact .cons _ _ _ _ (.int _ _) ih

theorem allCells_append : ∀ (l1 l2 : List AVal), allCells l1 = true → allCells l2 = true → allCells (l1 ++ l2) = true
  | [], l2, _, h => h
  | v :: l, l2, ha, hb => by
    simp only [List.cons_append, allCells] at ha ⊢
    cases hc : isCell v
    · rw [hc] at ha; cases ha
    · rw [hc] at ha; exact allCells_append l l2 ha hb
theorem allCells_replicate {z : List AVal} (h : allCells z = true) : ∀ n : Nat, allCells (List.replicate n z).flatten = true
  | 0 => rfl
  | n + 1 => by rw [List.replicate_succ, List.flatten_cons]; exact allCells_append _ _ h (allCells_replicate h n)
theorem appended_sound {T xT : TypeId} {es by_ : Nat} {ux : AVal} {r : List AVal × Nat} {X z : Value} {e : TypeId} {i : TypeInfo} (h : appended P S T xT es by_ ux = some r) (hx : VR ρ μ ux X) (hm : HR ρ μ S w)
    (ht : P.underlying T = some (.slice e)) (hi : P.info? e = some i) (hz : i.zero = some z) (hsz : i.size = es) (hby : i.bytes = by_) :
    ∃ news, Put P e xT i z X r.2 news w ∧ VRs ρ μ r.1 news := by
  unfold appended at h
  split at h
  · simp only [bsel_none] at h
    obtain ⟨h1, h⟩ := h
    cases h
    obtain ⟨e', h1⟩ := isSliceT_eq h1
    cases hx
    exact ⟨[], .inl (.ofNil w h1 0), .nil⟩
  · rename_i b j n _ _
    simp only [bsel_none, oget_some] at h
    obtain ⟨h1, l, hl, h2, h⟩ := h
    cases h
    obtain ⟨e', h1⟩ := isSliceT_eq h1
    have key : ∀ (m : Loc) (c : Nat), μ b = some m → X = .slice (some ⟨m.blk, m.off + j, none⟩) n c → ∃ news, Put P e xT i z X n news w ∧ VRs ρ μ l news := fun m c hm' eX => by
      obtain ⟨hlen, r, hr, hrl, hc⟩ := loads_sound hm hl hm'
      subst eX
      exact ⟨r, .inl (.ofSlice w h1 _ n c r (by rw [hsz]; omega) (fun k u hu => by rw [add_lit]; exact hc k u hu) (allCells_one hr h2)), hr⟩
    cases hx with
    | slice _ _ _ cap0 m hm' _ => exact key m _ hm' rfl
    | oslice _ _ _ _ _ cap' m hm' _ _ _ => exact key m cap' hm' rfl
  · simp only [bsel_none] at h
    obtain ⟨h1, h⟩ := h
    cases h
    obtain ⟨e', h1⟩ := isSliceT_eq h1
    cases hx with
    | eslice A c => exact ⟨[], .inl (.ofSlice w h1 A 0 c [] (by simp) (fun k u hu => by simp at hu) (fun u hu => by cases hu)), .nil⟩
  · rename_i s
    simp only [bsel_none] at h
    obtain ⟨h1, h2, h⟩ := h
    cases h
    have h2 := Nat.eq_of_beq_eq_true h2
    cases hx
    have q := Src.ofString w (isStringT_eq h1) s
    rw [← h2, ← hsz] at q
    exact ⟨_, .inl q, bytes_VRs s⟩
  · rename_i n
    simp only [bsel_none, oget_some] at h
    obtain ⟨k, hk, za', hza, h1, h2, h3, h4, h⟩ := h
    cases h
    have h1 := Nat.eq_of_beq_eq_true h1
    have h2 := Nat.le_of_ble_eq_true h2
    have h3 := Nat.le_of_ble_eq_true h3
    obtain ⟨e', i', zv, he', hi', hzv, hsc⟩ := eltZero_eq hza
    rw [ht] at he'
    cases he'
    rw [hi] at hi'
    cases hi'
    rw [hz] at hzv
    cases hzv
    have hzr := ofScalars_VRs (ρ := ρ) (μ := μ) hsc
    have hzs : z.cells.size = i.size := by have := hzr.length; simp at this; omega
    have hr := madeCells_VRs hzr n
    cases hx
    refine ⟨_, .inr ⟨k, _, isIntT_eq hk, rfl, h3, by rw [hby]; exact h2, hzs, rfl, ?_⟩, hr⟩
    have : allCells (List.replicate n za').flatten = true := allCells_replicate h4 n
    exact allCells_one hr this
  · cases h

theorem alive_eq {b : Nat} {u : Unit} (h : S.alive b = some u) : ∃ n d t, S.blk b = some (.cells n d t) := by
  simp only [St.alive, oget_some] at h
  obtain ⟨B, hB, h⟩ := h
  split at h
  · exact ⟨_, _, _, hB⟩
  · cases h

/-- The block is another's from now on: at the same place. -/
theorem moved_sound (h : HR ρ μ S w) {b i b' : Nat} {old news : List AVal} {olds ns : List Value} {m : Loc} {S₂ : St} (hm : μ b = some m) {n0 : Nat} {d0 : AVal} {t0 : Tr AVal} (hB : S.blk b = some (.cells n0 d0 t0)) (holds : VRs ρ μ old olds)
    (hcells : ∀ j x, olds[j]? = some x → w.cell? ⟨m.blk, m.off + i + j, none⟩ = some x) (hns : VRs ρ μ news ns)
    (hk : S.setBlk b .dead = some S₁) (hn : S₁.new (mkCells (old ++ news)) = some (b', S₂)) (hf : Fresh μ S S₂) {ext : Nat} (hext : i + ext ≤ m.ext) (hroom : olds.length + ns.length ≤ ext) :
    b' = S.next ∧ (∀ j, j < ns.length → (w.cell? ⟨m.blk, m.off + i + olds.length + j, none⟩).isSome = true) ∧ (∀ j, j < ns.length → w.frozen? ⟨m.blk, m.off + i + olds.length + j, none⟩ = false) ∧
      Step ρ μ S w (muSet μ b' ⟨m.blk, m.off + i, ext⟩) S₂ (w.setCells m.blk (m.off + i + olds.length) ns) := by
  rw [St.setBlk_eq] at hk
  cases hk
  rw [St.new_eq] at hn
  cases hn
  obtain ⟨_, hrow, _⟩ := h.cells b n0 d0 t0 m hB hm
  have ho : Owns S μ b m := ⟨hm, _, hB, by simp⟩
  have hcell : ∀ j, j < ns.length → (w.cell? ⟨m.blk, m.off + i + olds.length + j, none⟩).isSome = true := fun j hj => by
    have := hrow.cell (j := i + olds.length + j) (by omega)
    rwa [show m.off + (i + olds.length + j) = m.off + i + olds.length + j by omega] at this
  have hfree : ∀ j, j < ns.length → w.frozen? ⟨m.blk, m.off + i + olds.length + j, none⟩ = false := fun j hj => by
    have := hrow.free (j := i + olds.length + j) (by omega)
    rwa [show m.off + (i + olds.length + j) = m.off + i + olds.length + j by omega] at this
  have hnone : μ S.next = none := hf S.next (Nat.le_refl _) (Nat.lt_succ_self _)
  have hbn : b ≠ S.next := fun e => by rw [e, hnone] at hm; cases hm
  have hmono := muSet_mono (m := ⟨m.blk, m.off + i, ext⟩) hnone
  obtain ⟨q1, q2, q3, q4⟩ := os_setCells m.blk ns (m.off + i + olds.length) w
  have hblk : ∀ c X, St.blk ⟨(S.heap.set b .dead).set S.next (mkCells (old ++ news)), S.next + 1⟩ c = some X → X ≠ .dead →
      (c = S.next ∧ X = mkCells (old ++ news)) ∨ (c ≠ S.next ∧ c ≠ b ∧ S.blk c = some X) := fun c X hX hd => by
    have e : St.blk ⟨(S.heap.set b .dead).set S.next (mkCells (old ++ news)), S.next + 1⟩ c = if S.next = c then some (mkCells (old ++ news)) else if b = c then some .dead else S.blk c := by
      rw [St.blk_set]
      by_cases e : S.next = c
      · rw [if_pos e, if_pos e]
      · rw [if_neg e, if_neg e]
        exact St.blk_set _ S.next _ _ _
    rw [e] at hX
    by_cases e1 : S.next = c
    · rw [if_pos e1] at hX; cases hX; exact .inl ⟨e1.symm, rfl⟩
    · rw [if_neg e1] at hX
      by_cases e2 : b = c
      · rw [if_pos e2] at hX; cases hX; exact absurd rfl hd
      · rw [if_neg e2] at hX; exact .inr ⟨Ne.symm e1, Ne.symm e2, hX⟩
  have hmu : ∀ c m', c ≠ S.next → muSet μ S.next ⟨m.blk, m.off + i, ext⟩ c = some m' → μ c = some m' := fun c m' hc hm' => by
    unfold muSet at hm'; rw [if_neg hc] at hm'; exact hm'
  have hother : ∀ c X m', c ≠ b → S.blk c = some X → X ≠ .dead → μ c = some m' → m'.blk ≠ m.blk := fun c X m' hcb hX hd hm' e => hcb (h.inj c b m' m ⟨hm', X, hX, hd⟩ ho e)
  have hrow' : ∀ m', Row w m' → Row (w.setCells m.blk (m.off + i + olds.length) ns) m' := fun m' hr => hr.setCells _ _ _ _
  refine ⟨rfl, hcell, hfree, ⟨fun c n d t m' hc hm' => ?_, fun c es cl m' hc hm' => ?_, fun c c' m1 m2 ⟨a1, X1, a2, a3⟩ ⟨b1, X2, b2, b3⟩ e => ?_, fun c hc => ?_⟩, Nat.le_succ _, fun c hc => ?_, hmono, by rw [q4]; exact Nat.le_refl _,
    fun k hk hn => heap_setCells _ _ _ _ _ (fun e => hn ⟨b, m, ho, e.symm⟩), fun k ⟨c, m', ⟨a1, X1, a2, a3⟩, e⟩ => ?_, q1, q2, q3⟩
  · rcases hblk c _ hc (by simp) with ⟨rfl, e⟩ | ⟨h1, h2, h3⟩
    · rw [muSet_same] at hm'
      cases hm'
      have hlen1 := holds.length
      have hlen2 := hns.length
      have hc' := mkCells_cell (old ++ news)
      rw [← e] at hc'
      have hnn : n = (old ++ news).length := by unfold mkCells at e; rw [forceN_eq] at e; cases e; rfl
      refine ⟨by rw [hnn, List.length_append]; show _ ≤ ext; omega, hrow' _ ?_, fun j v hv => ?_⟩
      · obtain ⟨arr, T, lo, hi, r1, r2, r3⟩ := hrow
        exact ⟨arr, T, lo, hi, r1, r2, by show m.off + i + ext ≤ arr.size; omega⟩
      · rw [hc'] at hv
        obtain ⟨x, hx, hvx⟩ := (holds.append hns).get hv
        refine ⟨x, ?_, hvx.mono hmono⟩
        show World.cell? _ ⟨m.blk, m.off + i + j, none⟩ = some x
        rw [cell_setCells _ _ _ _ _ _ hcell]
        by_cases hj : j < olds.length
        · rw [if_neg (by omega)]
          rw [List.getElem?_append_left hj] at hx
          exact hcells j x hx
        · have hj' := (List.getElem?_eq_some_iff.1 hx).1
          rw [List.length_append] at hj'
          rw [if_pos ⟨rfl, by omega, by omega⟩]
          rw [List.getElem?_append_right (by omega)] at hx
          rw [← hx]
          congr 1
          omega
    · have hm0 := hmu _ _ h1 hm'
      have hne := hother c _ m' h2 h3 (by simp) hm0
      obtain ⟨g1, g2, g3⟩ := h.cells c n d t m' h3 hm0
      refine ⟨g1, hrow' _ g2, fun j v hv => ?_⟩
      obtain ⟨x, hx, hvx⟩ := g3 j v hv
      refine ⟨x, ?_, hvx.mono hmono⟩
      rw [cell_setCells _ _ _ _ _ _ hcell, if_neg (fun h => hne h.1)]
      exact hx
  · rcases hblk c _ hc (by simp) with ⟨rfl, e⟩ | ⟨h1, h2, h3⟩
    · unfold mkCells at e; rw [forceN_eq] at e; cases e
    · have hm0 := hmu _ _ h1 hm'
      have hne := hother c _ m' h2 h3 (by simp) hm0
      rw [heap_setCells _ _ _ _ _ hne]
      exact h.maps c es cl m' h3 hm0
  · rcases hblk c _ a2 a3 with ⟨rfl, _⟩ | ⟨h1, h2, h3⟩ <;> rcases hblk c' _ b2 b3 with ⟨rfl, _⟩ | ⟨g1, g2, g3⟩
    · rfl
    · rw [muSet_same] at a1
      cases a1
      exact absurd e.symm (hother c' _ m2 g2 g3 b3 (hmu _ _ g1 b1))
    · rw [muSet_same] at b1
      cases b1
      exact absurd e (hother c _ m1 h2 h3 a3 (hmu _ _ h1 a1))
    · exact h.inj c c' m1 m2 ⟨hmu _ _ h1 a1, X1, h3, a3⟩ ⟨hmu _ _ g1 b1, X2, g3, b3⟩ e
  · have hc' : S.next + 1 ≤ c := hc
    have hb : b < S.next := by
      rcases Nat.lt_or_ge b S.next with hlt | hge
      · exact hlt
      · have := h.wf b hge; rw [hB] at this; cases this
    rw [St.blk_set, if_neg (Nat.ne_of_lt (show S.next < c from hc'))]
    rw [Tr.get_set, if_neg (by omega)]
    exact h.wf c (Nat.le_of_lt hc')
  · unfold muSet
    have hc' : c < S.next ∨ S.next + 1 ≤ c := hc
    rw [if_neg (show ¬ c = S.next by omega)]
  · rcases hblk c _ a2 a3 with ⟨rfl, _⟩ | ⟨h1, h2, h3⟩
    · rw [muSet_same] at a1
      cases a1
      exact .inl ⟨b, m, ho, e⟩
    · exact .inl ⟨c, m', ⟨hmu _ _ h1 a1, X1, h3, a3⟩, e⟩
end
end Go.Abs
