/- Operations that change memory. -/
import Derived.Test.YtmppkccbjmeihaaGreatAb11
namespace Go.Abs
set_option autoImplicit true
set_option relaxedAutoImplicit true
set_option linter.unusedVariables false
set_option linter.unusedSimpArgs false
set_option linter.unusedSectionVars false
open Go.RowKit

section
variable {P : Program} {ρ : Nat → Int} {μ : Mu} {F : Fr} {E : Env} {a : Act} {S S' S₁ : St} {C : Handler} {orc : SB → Option Bool} {w : World}

/-- An operation is done: its value, the memory behind it. -/
def Did (P : Program) (ρ : Nat → Int) (μ : Mu) (S : St) (w : World) (a : Act) (o : Oper) (v : AVal) (S' : St) : Prop :=
  ∃ μ' x w' n, (execOp a.eval o).run P w = .ok n w' ∧ (n = .value x ∨ n = .skip ∧ x = undef) ∧ VR ρ μ' v x ∧ Step ρ μ S w μ' S' w'

theorem isCell_one {v : AVal} {x : Value} (hv : VR ρ μ v x) (h : isCell v = true) : x.oneCell' = true := by
  cases hv <;> first | rfl | (simp [isCell] at h; done)
theorem allCells_one {l : List AVal} {r : List Value} (hl : VRs ρ μ l r) (h : allCells l = true) : ∀ u ∈ r, u.oneCell' = true := by
  induction l generalizing r with
  | nil => cases hl; intro u hu; cases hu
  | cons v l ih =>
    cases hl with
    | cons _ x _ r h1 hs =>
      unfold allCells at h
      cases hc : isCell v
      · rw [hc] at h; cases h
      · rw [hc] at h
        intro u hu
        rcases List.mem_cons.1 hu with rfl | hu
        · exact isCell_one h1 hc
        · exact ih hs h u hu
theorem undef_VR : VR ρ μ (.tuple []) undef := by
  have e : undef = .tuple ([] : List Value).toArray := rfl
  rw [e]; exact .tuple [] [] .nil

theorem store_did {t : TypeId} {x y : Operand} {dst : Option Tmp} {type : TypeId} {pos : String} {after : Array Edge} {guard : Option (Nat × Bool)} {v : AVal}
    (h : evOp C P orc F E S ⟨dst, .store t x y, type, pos, after, guard⟩ = some (v, S')) (ha : AR ρ μ F E a) (hm : HR ρ μ S w) :
    Did P ρ μ S w a ⟨dst, .store t x y, type, pos, after, guard⟩ v S' := by
  simp only [evOp] at h
  rw [oget_some] at h
  obtain ⟨ua, hua, h⟩ := h
  rw [oget_some] at h
  obtain ⟨u, hu, h⟩ := h
  rw [oget_some] at h
  obtain ⟨n, hn, h⟩ := h
  split at h
  · rename_i b i
    simp only [bsel_none, oget_some] at h
    obtain ⟨h1, h2, S1, hs, e⟩ := h
    cases e
    have h1 := Nat.eq_of_beq_eq_true h1
    have g := evo_sound hua ha
    have gu := evo_sound hu ha
    generalize ex : a.eval x = X at g
    cases g with
    | ptr _ _ m hm' =>
      have hc := cells_VR gu
      obtain ⟨k1, k2, k3, _⟩ := stores_sound hm hs hm' hc
      have hone := allCells_one hc h2
      refine ⟨μ, undef, _, .skip, exec_skip (s := Instr.storeAt t (a.eval x) (a.eval y)) rfl ?_, .inr ⟨rfl, rfl⟩, undef_VR, k3⟩
      have hlen := hc.length
      simp only [Array.length_toList] at hlen
      unfold cellsOf? at hn
      cases hi : P.info? t with
      | none => rw [hi] at hn; cases hn
      | some inf =>
        rw [hi] at hn
        cases hn
        have hst := run_storeCells_cells (P := P) m.blk (m.off + i) (a.eval y).cells.toList 0 w (by simpa using k1) (by simpa using k2) hone
        have h1' : u.cells.length = inf.size := h1
        have hne : ¬ ((a.eval y).cells.size ≠ inf.size) := by omega
        simp only [Nat.add_zero] at hst
        rw [ex]
        simp only [Instr.storeAt, Instr.sureAddr, Sem.run_bind, Sem.run_pure, Result.andThen_ok, storeVar, sizeOf, typeInfo, run_program, hi]
        rw [if_neg hne]
        simp only [hst, Sem.run_bind, Result.andThen_ok, Sem.run_pure]
  · cases h

theorem heap_setObj (r : Nat) (ob : Obj) (k : Nat) (h : k ≠ r) : (w.heap.setIfInBounds r ob)[k]? = w.heap[k]? := by
  rw [Array.getElem?_setIfInBounds_ne (Ne.symm h)]
/-- A map that is set. -/
theorem map_sound (h : HR ρ μ S w) {b : Nat} {es es' : Array MapEntry} {cl cl' : Nat} {m : Loc} (hB : S.blk b = some (.amap es cl)) (hm : μ b = some m) (hk : S.setBlk b (.amap es' cl') = some S₁) (w' : World)
    (hw : w'.heap = w.heap.setIfInBounds m.blk (.map es' cl')) (h1 : w'.os = w.os) (h2 : w'.tape = w.tape) (h3 : w'.output = w.output) : Step ρ μ S w μ S₁ w' := by
  rw [St.setBlk_eq] at hk
  cases hk
  have hown : ∀ c m', Owns ⟨S.heap.set b (.amap es' cl'), S.next⟩ μ c m' → Owns S μ c m' := fun c m' ⟨h1, X, h2, h3⟩ => by
    rw [St.blk_set] at h2
    by_cases e : b = c
    · subst e; exact ⟨h1, _, hB, by simp⟩
    · rw [if_neg e] at h2; exact ⟨h1, X, h2, h3⟩
  have ho : Owns S μ b m := ⟨hm, _, hB, by simp⟩
  refine ⟨⟨fun c n d t m' hc hm' => ?_, fun c e1 c1 m' hc hm' => ?_, fun c c' m1 m2 h1 h2 => h.inj c c' m1 m2 (hown _ _ h1) (hown _ _ h2), fun c hc => ?_⟩, Nat.le_refl _, fun _ _ => rfl, fun _ _ h => h, by rw [hw]; simp, fun k _ hn => ?_, fun k ⟨c, m', ho, e⟩ => .inl ⟨c, m', hown _ _ ho, e⟩, h1, h2, h3⟩
  · rw [St.blk_set] at hc
    by_cases e : b = c
    · subst e; rw [if_pos rfl] at hc; cases hc
    · rw [if_neg e] at hc
      have hne : m'.blk ≠ m.blk := fun e' => e (h.inj b c m m' ho ⟨hm', _, hc, by simp⟩ e'.symm)
      have hh : w'.heap[m'.blk]? = w.heap[m'.blk]? := by rw [hw]; exact heap_setObj _ _ _ hne
      obtain ⟨q1, q2, q3⟩ := h.cells c n d t m' hc hm'
      refine ⟨q1, ?_, fun i v hv => ?_⟩
      · obtain ⟨arr, T, lo, hi, q⟩ := q2; exact ⟨arr, T, lo, hi, by rw [hh]; exact q⟩
      · obtain ⟨x, hx, hr⟩ := q3 i v hv; exact ⟨x, by rw [← hx]; exact cell_congr hh _, hr⟩
  · rw [St.blk_set] at hc
    by_cases e : b = c
    · subst e
      rw [if_pos rfl] at hc
      cases hc
      rw [hm] at hm'
      cases hm'
      have := h.lt ⟨b, m, ho, rfl⟩
      rw [hw, Array.getElem?_setIfInBounds_self_of_lt this]
    · rw [if_neg e] at hc
      have hne : m'.blk ≠ m.blk := fun e' => e (h.inj b c m m' ho ⟨hm', _, hc, by simp⟩ e'.symm)
      rw [hw, heap_setObj _ _ _ hne]
      exact h.maps c e1 c1 m' hc hm'
  · rw [St.blk_set]
    by_cases e : b = c
    · subst e; have := h.wf b hc; rw [hB] at this; cases this
    · rw [if_neg e]; exact h.wf c hc
  · rw [hw]; exact heap_setObj _ _ _ fun e => hn ⟨b, m, ho, e.symm⟩

theorem mapUpdate_did {T : TypeId} {xm xk xv : Operand} {dst : Option Tmp} {type : TypeId} {pos : String} {after : Array Edge} {guard : Option (Nat × Bool)} {v : AVal}
    (h : evOp C P orc F E S ⟨dst, .mapUpdate T xm xk xv, type, pos, after, guard⟩ = some (v, S')) (ha : AR ρ μ F E a) (hm : HR ρ μ S w) :
    Did P ρ μ S w a ⟨dst, .mapUpdate T xm xk xv, type, pos, after, guard⟩ v S' := by
  simp only [evOp] at h
  rw [oget_some] at h
  obtain ⟨um, hum, h⟩ := h
  rw [oget_some] at h
  obtain ⟨uk, huk, h⟩ := h
  rw [oget_some] at h
  obtain ⟨kv, hkv, h⟩ := h
  rw [oget_some] at h
  obtain ⟨ux, hux, h⟩ := h
  rw [oget_some] at h
  obtain ⟨xv', hxv, h⟩ := h
  split at h
  · rename_i r
    rw [oget_some] at h
    obtain ⟨B, hB, h⟩ := h
    split at h
    · rename_i es cl
      simp only [oget_some] at h
      obtain ⟨q, hq, S1, hS1, e⟩ := h
      cases e
      have g := evo_sound hum ha
      have gk := toV_eq hkv (evo_sound huk ha)
      have gx := toScalar_eq hxv (evo_sound hux ha)
      generalize ex : a.eval xm = X at g
      cases g with
      | map _ m hl =>
        have hobj := hm.maps _ _ _ _ hB hl
        refine ⟨μ, undef, { w with heap := w.heap.setIfInBounds m.blk (.map q.1 q.2) }, .skip, exec_skip (s := Instr.mapUpdate T (a.eval xm) (a.eval xk) (a.eval xv)) rfl ?_, .inr ⟨rfl, rfl⟩, undef_VR, map_sound hm hB hl hS1 _ rfl rfl rfl rfl⟩
        rw [ex, gk, gx]
        unfold updateA at hq
        have hg : (getObj m.blk).run P w = .ok (.map es cl) w := by simp [getObj, Sem.run, hobj]
        have hlt := hm.lt ⟨_, _, ⟨hl, _, hB, by simp⟩, rfl⟩
        have hset : ∀ ob, (setObj m.blk ob).run P w = .ok () { w with heap := w.heap.setIfInBounds m.blk ob } := fun ob => by simp only [setObj, Sem.run, hobj]
        split at hq
        · rename_i key elem hT
          simp only [oget_some] at hq
          obtain ⟨_, h1, r', h2, hq⟩ := hq
          have g1 := pureRun_sound (P := P) _ _ h1
          have g2 := pureRun_sound (P := P) _ _ h2
          split at hq
          · rename_i i u
            simp only [oget_some] at hq
            obtain ⟨k', h3, e⟩ := hq
            cases e
            have g3 := pureRun_sound (P := P) _ _ h3
            simp only [Instr.mapUpdate, Sem.run_bind, run_underlying hT, Result.andThen_ok, hg, g1, g2, g3, hset, Sem.run_pure]
          · cases hq
            simp only [Instr.mapUpdate, Sem.run_bind, run_underlying hT, Result.andThen_ok, hg, g1, g2, hset, Sem.run_pure]
        · cases hq
    · cases h
  · cases h

/-- A mark behind a block's cells. -/
theorem freeze_sound (h : HR ρ μ S w) {b : Nat} {n : Nat} {d : AVal} {t : Tr AVal} {m : Loc} (hB : S.blk b = some (.cells n d t)) (hm : μ b = some m) {arr : Array Value} {T : TypeId} {z : Nat × Nat} (ho : w.heap[m.blk]? = some (.cells arr T z)) :
    Step ρ μ S w μ S (w.freeze ⟨m.blk, arr.size, none⟩ 1) := by
  have hne : ∀ k, k ≠ m.blk → (w.freeze ⟨m.blk, arr.size, none⟩ 1).heap[k]? = w.heap[k]? := fun k hk => by
    simp only [World.freeze, Nat.one_ne_zero, if_false, Array.getElem?_modify]
    rw [if_neg (Ne.symm hk)]
  obtain ⟨lo, hi⟩ := z
  obtain ⟨lo', hi', heq, hlo⟩ : ∃ lo' hi', (w.freeze ⟨m.blk, arr.size, none⟩ 1).heap[m.blk]? = some (.cells arr T (lo', hi')) ∧ ((lo = hi ∨ arr.size ≤ lo) → arr.size ≤ lo') := by
    by_cases hz : lo = hi
    · refine ⟨arr.size, arr.size + 1, ?_, fun _ => Nat.le_refl _⟩
      simp only [World.freeze, Nat.one_ne_zero, if_false, Array.getElem?_modify, if_true, ho, Option.map_some]
      simp [hz]
    · refine ⟨min lo arr.size, max hi (arr.size + 1), ?_, fun hh => by omega⟩
      simp only [World.freeze, Nat.one_ne_zero, if_false, Array.getElem?_modify, if_true, ho, Option.map_some]
      simp [hz]
  have hcell : ∀ k i, (w.freeze ⟨m.blk, arr.size, none⟩ 1).cell? ⟨k, i, none⟩ = w.cell? ⟨k, i, none⟩ := fun k i => by
    by_cases e : k = m.blk
    · subst e; simp only [World.cell?, heq, ho]
    · exact cell_congr (hne k e) i
  have hrow : ∀ m', Row w m' → Row (w.freeze ⟨m.blk, arr.size, none⟩ 1) m' := fun m' ⟨arr', T', lo1, hi1, q1, q2, q3⟩ => by
    by_cases e : m'.blk = m.blk
    · rw [e, ho] at q1
      cases q1
      exact ⟨arr, T, lo', hi', by rw [e]; exact heq, .inr (hlo q2), q3⟩
    · exact ⟨arr', T', lo1, hi1, by rw [hne _ e]; exact q1, q2, q3⟩
  have hsz : (w.freeze ⟨m.blk, arr.size, none⟩ 1).heap.size = w.heap.size := by simp [World.freeze]
  have hown : Owns S μ b m := ⟨hm, _, hB, by simp⟩
  refine ⟨⟨fun c n d t m' hc hm' => ?_, fun c e1 c1 m' hc hm' => ?_, h.inj, h.wf⟩, Nat.le_refl _, fun _ _ => rfl, fun _ _ h => h, Nat.le_of_eq hsz.symm, fun k _ hn => hne k fun e => hn ⟨b, m, hown, e.symm⟩, fun k hk => .inl hk, by simp [World.freeze], by simp [World.freeze], by simp [World.freeze]⟩
  · obtain ⟨q1, q2, q3⟩ := h.cells c n d t m' hc hm'
    exact ⟨q1, hrow _ q2, fun i v hv => by rw [hcell]; exact q3 i v hv⟩
  · have q := h.maps c e1 c1 m' hc hm'
    rw [hne _ fun e => by rw [e, ho] at q; cases q]
    exact q

theorem mark_did {s d : TypeId} {x : Operand} {dst : Option Tmp} {type : TypeId} {pos : String} {after : Array Edge} {guard : Option (Nat × Bool)} {v : AVal} (hs : isSliceT P s = true) (hd : isSliceT P d = true)
    (h : evOp C P orc F E S ⟨dst, .convert s d x, type, pos, after, guard⟩ = some (v, S')) (ha : AR ρ μ F E a) (hm : HR ρ μ S w) :
    Did P ρ μ S w a ⟨dst, .convert s d x, type, pos, after, guard⟩ v S' := by
  obtain ⟨es, hse⟩ := isSliceT_eq hs
  obtain ⟨ed, hde⟩ := isSliceT_eq hd
  have nog : isIntT P d = none := by unfold isIntT; rw [hde]
  have nos : isStringT P d = false := by unfold isStringT; rw [hde]
  have nos' : isStringT P s = false := by unfold isStringT; rw [hse]
  have gen : ∀ {r : Option AVal}, r = generic P F E ⟨dst, .convert s d x, type, pos, after, guard⟩ → (oget r fun v => some (v, S)) = some (v, S') →
      Did P ρ μ S w a ⟨dst, .convert s d x, type, pos, after, guard⟩ v S' := fun e hh => by
    subst e
    simp only [oget_some] at hh
    obtain ⟨u, hu, e⟩ := hh
    cases e
    obtain ⟨x', hx, hw⟩ := generic_sound hu ha
    exact ⟨μ, x', w, _, hw w, .inl rfl, hx, .refl hm⟩
  simp only [evOp] at h
  rw [oget_some] at h
  obtain ⟨u, hu, h⟩ := h
  split at h
  · rw [nog] at h; exact gen rfl h
  · rw [nog] at h
    simp only [oget_some] at h
    obtain ⟨_, _, _, hk, _⟩ := h
    cases hk
  · rename_i p len cap opn
    rw [nos] at h
    simp only [bsel_false, bsel_none] at h
    obtain ⟨e1, hu8, h⟩ := h
    have e1 := Nat.eq_of_beq_eq_true e1
    subst e1
    rw [oget_some] at h
    obtain ⟨B, hB, h⟩ := h
    split at h
    · cases h
      rename_i n d t
      obtain ⟨e, he1, he2⟩ := isU8_eq hu8
      have g := evo_sound hu ha
      have key : ∀ (m : Loc) (A : Nat) (c : Nat), μ p.1 = some m → a.eval x = .slice (some ⟨m.blk, A, none⟩) len c → ∃ w', (execOp a.eval ⟨dst, .convert s s x, type, pos, after, guard⟩).run P w = .ok (.value (a.eval x)) w' ∧ Step ρ μ S w μ S w' := fun m A c hm' ex => by
        obtain ⟨_, ⟨arr, T, lo, hi, ho, _, _⟩, _⟩ := hm.cells _ _ _ _ _ hB hm'
        refine ⟨_, exec_value (s := Go.convert s s (a.eval x)) rfl ?_, freeze_sound hm hB hm' ho⟩
        rw [ex]
        simp [Go.convert, run_underlying he1, run_underlying he2, markStringish, World.shape?, ho]
      generalize ex : a.eval x = X at g
      cases g with
      | slice _ _ _ _ m hm' hle =>
        obtain ⟨w', k1, k2⟩ := key m _ _ hm' ex
        exact ⟨μ, _, w', _, k1, .inl rfl, by rw [ex]; exact .slice _ _ _ _ m hm' hle, k2⟩
      | oslice _ _ _ _ _ cap' m hm' h1 h2 h3 =>
        obtain ⟨w', k1, k2⟩ := key m _ _ hm' ex
        exact ⟨μ, _, w', _, k1, .inl rfl, by rw [ex]; exact .oslice _ _ _ _ _ cap' m hm' h1 h2 h3, k2⟩
    · cases h
  · rw [nos] at h; cases h
  · rw [nos, nos'] at h
    simp [bsel] at h
  · exact gen rfl h
end
end Go.Abs
