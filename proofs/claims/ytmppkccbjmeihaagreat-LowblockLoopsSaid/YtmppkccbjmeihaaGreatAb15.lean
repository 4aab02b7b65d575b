/- append and copy as operations. -/
import Derived.Test.YtmppkccbjmeihaaGreatAb14
namespace Go.Abs
set_option autoImplicit true
set_option relaxedAutoImplicit true
set_option linter.unusedVariables false
set_option linter.unusedSimpArgs false
set_option linter.unusedSectionVars false
open Go.RowKit

section
variable {P : Program} {ρ : Nat → Int} {μ : Mu} {F : Fr} {E : Env} {a : Act} {S S' S₁ : St} {C : Handler} {orc : SB → Option Bool} {w : World}

theorem exec_builtin {c : Call} {b : Builtin} (hc : c.callee = .builtin b) {dst : Option Tmp} {type : TypeId} {pos : String} {after : Array Edge} {guard : Option (Nat × Bool)} {g : Operand → Value} {w w' : World} {n : Next}
    (h : (builtin b c.argTypes type (c.args.map fun | .const _ => true | _ => false) (c.args.map g)).run P w = .ok n w') : (execOp g ⟨dst, .call c, type, pos, after, guard⟩).run P w = .ok n w' := by
  have e : (execOp g ⟨dst, .call c, type, pos, after, guard⟩).run P w = (do let d ← resolve g c type; invoke d.target d.args : Sem Next).run P w := rfl
  rw [e, resolve_builtin g c b type hc w]; exact h
theorem args_two {α β : Type} {l : Array α} {x y : α} (h : l.toList = [x, y]) (g : α → β) : l.map g = #[g x, g y] := by
  have : l = #[x, y] := by apply Array.ext'; simpa using h
  subst this; simp
theorem array_two {α : Type} {l : Array α} {x y : α} (h : l.toList = [x, y]) : l = #[x, y] := by apply Array.ext'; simpa using h

theorem append_did {c : Call} (hc : c.callee = .builtin .append) {dst : Option Tmp} {type : TypeId} {pos : String} {after : Array Edge} {guard : Option (Nat × Bool)} {v : AVal}
    (h : evOp C P orc F E S ⟨dst, .call c, type, pos, after, guard⟩ = some (v, S')) (ha : AR ρ μ F E a) (hm : HR ρ μ S w) (hf : Fresh μ S S') :
    Did P ρ μ S w a ⟨dst, .call c, type, pos, after, guard⟩ v S' := by
  simp only [evOp, callAny, hc] at h
  split at h
  · rename_i s x hargs
    rw [oget_some] at h
    obtain ⟨us, hus, h⟩ := h
    rw [oget_some] at h
    obtain ⟨ux, hux, h⟩ := h
    unfold aappend at h
    split at h
    · rename_i T xT hT
      rw [oget_some] at h
      obtain ⟨es, hes, h⟩ := h
      rw [oget_some] at h
      obtain ⟨by_, hby, h⟩ := h
      rw [oget_some] at h
      obtain ⟨za, hza, h⟩ := h
      simp only [bsel_none, bsel_none'] at h
      obtain ⟨hes0, hzl, h⟩ := h
      rw [oget_some] at h
      obtain ⟨r, hr, h⟩ := h
      have hzl := Nat.eq_of_beq_eq_true hzl
      have hes0 : es ≠ 0 := fun e => by subst e; cases hes0
      obtain ⟨e, i, he, hi, hsz⟩ := eltSize_eq hes
      obtain ⟨e', i', zv, he', hi', hzv, hsc⟩ := eltZero_eq hza
      rw [he] at he'
      cases he'
      rw [hi] at hi'
      cases hi'
      have hbb : i.bytes = by_ := by
        unfold eltBytes at hby
        rw [he] at hby
        simp [hi] at hby
        exact hby
      have hzr := ofScalars_VRs (ρ := ρ) (μ := μ) hsc
      have hzs : zv.cells.size = i.size := by have := hzr.length; simp at this; omega
      have gs := evo_sound hus ha
      have gx := evo_sound hux ha
      obtain ⟨news, hput, hnews⟩ := appended_sound hr gx hm he hi hzv hsz hbb
      have hnl := hput.length
      have exec : ∀ {z : Value} {w' : World}, (Builtin.append_ #[T, xT] type #[a.eval s, a.eval x]).run P w = .ok z w' → (execOp a.eval ⟨dst, .call c, type, pos, after, guard⟩).run P w = .ok (.value z) w' := fun {z w'} hh => by
        refine exec_builtin hc ?_
        rw [array_two hT, args_two hargs a.eval]
        simp only [builtin, Sem.run_bind, hh, Result.andThen_ok, Sem.run_pure]
      obtain ⟨rl, rn⟩ := r
      simp only at h hput hnews hnl
      -- a new row
      have grow : ∀ (base : Option Addr) (sLen sCap : Nat) (old : List AVal) (olds : List Value) (b' : Nat), a.eval s = .slice base sLen sCap → VRs ρ μ old olds → olds.length = sLen * i.size →
          (Builtin.firstCells i.size sLen (.slice base sLen sCap)).run P w.drew = .ok olds.toArray w.drew → sCap < sLen + rn → (2 * (sLen + rn) + 768) * by_ ≤ 281474976710656 → sLen + rn ≤ 281474976710656 →
          ∀ {S1 : St}, (∀ μ' w', Step ρ μ S1 w μ' S' w' → Step ρ μ S w μ' S' w') → HR ρ μ S1 w → Fresh μ S1 S' → S1.next = S.next → S1.new (mkCells (old ++ rl)) = some (b', S') → v = .slice (some (b', 0)) (sLen + rn) (sLen + rn) es →
          Did P ρ μ S w a ⟨dst, .call c, type, pos, after, guard⟩ v S' := fun base sLen sCap old olds b' es1 hold holn hfc hg hb1 hb2 {S1} hst hm1 hf1 hnx hnew hv => by
        have hcap := nextslicecap_le hg
        have hfit : Builtin.nextslicecap (sLen + rn) sCap * i.bytes ≤ 281474976710656 := by
          rw [hbb]; exact Nat.le_trans (Nat.mul_le_mul_right _ hcap) hb1
        have hrun := run_put_grow w T xT type e i zv he hi hzv base sLen sCap olds hfc (a.eval x) rn news hput hg (by omega) hfit
        rw [← es1] at hrun
        have hge := grownCap_ge w (sLen + rn) sCap e
        generalize grownCap w (sLen + rn) sCap e = cap at hrun hge
        have hall := hold.append hnews
        have hlen : (olds ++ news).length = (sLen + rn) * i.size := by rw [List.length_append, holn, hnl, Nat.add_mul]
        have hzc : (Builtin.zeroCells zv.cells (cap - (sLen + rn))).size = (cap - (sLen + rn)) * i.size := by rw [zeroCells_made, size_madeCells, hzs]
        have htot : (olds ++ news).length + (Builtin.zeroCells zv.cells (cap - (sLen + rn))).toList.length = cap * i.size := by
          rw [hlen, Array.length_toList, hzc, ← Nat.add_mul]; congr 1; omega
        have hok := NewOK.mk (rest := (Builtin.zeroCells zv.cells (cap - (sLen + rn))).toList) hall e 0 0 (.inl rfl) w.heap.size
        have hob : ((olds ++ news) ++ (Builtin.zeroCells zv.cells (cap - (sLen + rn))).toList).toArray = (olds ++ news).toArray ++ Builtin.zeroCells zv.cells (cap - (sLen + rn)) := by apply Array.ext'; simp
        rw [hob, htot] at hok
        obtain ⟨k1, k2, k3⟩ := new_sound (w := w.drew) (hm1.of_heap rfl) hnew hf1 (m := ⟨w.heap.size, 0, cap * i.size⟩) rfl hok
        refine ⟨_, _, _, _, exec hrun, .inl rfl, ?_, hst _ _ ((Step.drew hm1).trans k3)⟩
        rw [hv]
        obtain ⟨es', rfl⟩ : ∃ k, es = k + 1 := ⟨es - 1, by omega⟩
        have := VR.oslice (ρ := ρ) (μ := muSet μ b' ⟨w.heap.size, 0, cap * i.size⟩) b' 0 (sLen + rn) (sLen + rn) es' cap _ (muSet_same _ _) (Nat.le_refl _) hge (by show 0 + cap * (es' + 1) = cap * i.size; rw [hsz]; omega)
        simpa using this
      split at h
      · -- nil
        generalize exs : a.eval s = X at gs
        cases gs
        cases hz : Nat.beq rn 0
        · rw [hz] at h
          simp only [bsel_false, bsel_none, oget_some] at h
          obtain ⟨h1, h2, q, hq, e⟩ := h
          cases e
          have h1 := Nat.le_of_ble_eq_true h1
          have h2 := Nat.le_of_ble_eq_true h2
          have hrn : rn ≠ 0 := fun e => by subst e; cases hz
          exact grow none 0 0 [] [] q.1 exs .nil (by simp) (run_firstCells_none w.drew _ _ _ _) (by omega) (by simpa using h1) (by omega) (fun _ _ h => h) hm hf rfl (by simpa using hq) (by simp)
        · rw [hz] at h
          simp only [bsel_true] at h
          cases h
          have hrn := Nat.eq_of_beq_eq_true hz
          subst hrn
          have hrun := run_put_nil w T xT type e i zv he hi hzv _ news hput
          rw [← exs] at hrun
          exact ⟨μ, _, w, _, exec hrun, .inl rfl, by rw [exs]; exact .nilSlice, .refl hm⟩
      · rename_i b j len cap opn
        rw [forceN_eq] at h
        generalize exs : a.eval s = X at gs
        -- there is room
        have room : ∀ (m : Loc) (sCap : Nat), μ b = some m → X = .slice (some ⟨m.blk, m.off + j, none⟩) len sCap → len + rn ≤ sCap → (∀ k, k < news.length → (w.cell? ⟨m.blk, m.off + j + len * i.size + k, none⟩).isSome = true) →
            (∀ k, k < news.length → w.frozen? ⟨m.blk, m.off + j + len * i.size + k, none⟩ = false) →
            (execOp a.eval ⟨dst, .call c, type, pos, after, guard⟩).run P w = .ok (.value (.slice (some ⟨m.blk, m.off + j, none⟩) (len + rn) sCap)) (w.setCells m.blk (m.off + j + len * i.size) news) := fun m sCap hm' eX hroom hc1 hc2 => by
          have hrun := run_put_room w T xT type e i zv he hi hzv m.blk (m.off + j) len sCap (a.eval x) rn news hput hroom hc1 hc2
          rw [← eX, ← exs] at hrun
          exact exec hrun
        cases hb : Nat.ble (len + rn) cap
        · rw [hb] at h
          simp only [bsel_false, bsel_none] at h
          obtain ⟨h1, h2, h⟩ := h
          rw [oget_some] at h
          obtain ⟨old, hold, h⟩ := h
          have h1 := Nat.le_of_ble_eq_true h1
          have h2 := Nat.le_of_ble_eq_true h2
          have hnb : ¬ (len + rn ≤ cap) := fun hh => by rw [Nat.ble_eq_true_of_le hh] at hb; cases hb
          -- a new row, of this memory
          have grow' : ∀ (m : Loc) (sCap : Nat), μ b = some m → X = .slice (some ⟨m.blk, m.off + j, none⟩) len sCap → sCap < len + rn →
              ∀ {S1 : St} {b' : Nat}, (∀ μ' w', Step ρ μ S1 w μ' S' w' → Step ρ μ S w μ' S' w') → HR ρ μ S1 w → Fresh μ S1 S' → S1.next = S.next → S1.new (mkCells (old ++ rl)) = some (b', S') → v = .slice (some (b', 0)) (len + rn) (len + rn) es →
              Did P ρ μ S w a ⟨dst, .call c, type, pos, after, guard⟩ v S' := fun m sCap hm' eX hlt {S1 b'} hst hm1 hf1 hnx hnew hv => by
            obtain ⟨hol, olds, hor, hon, hoc⟩ := loads_sound hm hold hm'
            exact grow (some ⟨m.blk, m.off + j, none⟩) len sCap old olds b' (by rw [exs, eX]) hor (by rw [hsz]; exact hon)
              (run_firstCells_some w.drew i.size len _ len sCap olds (by rw [hsz]; exact hon) (fun k u hu => by rw [add_lit]; exact hoc k u hu)) hlt h1 h2 hst hm1 hf1 hnx hnew hv
          cases ho : Nat.beq opn 0
          · rw [ho] at h
            simp only [bsel_false, bsel_none, oget_some] at h
            obtain ⟨ho2, _, hal, S1, hkill, q, hq, e⟩ := h
            cases e
            have ho2 := Nat.eq_of_beq_eq_true ho2
            obtain ⟨n0, d0, t0, hB⟩ := alive_eq hal
            have hk := hkill
            obtain ⟨k1, k2⟩ := kill_sound hm hB hkill
            cases gs with
            | slice _ _ _ _ _ _ _ => cases ho
            | oslice _ _ _ _ es' cap' m hm' hle hle2 hext =>
              rcases Nat.lt_or_ge cap' (len + rn) with hlt | hge
              · exact grow' m cap' hm' rfl hlt (fun _ _ h => k1.trans h) k1.hr (fun c hc => hf c (by rw [← k2]; exact hc)) k2 hq rfl
              · obtain ⟨hol, olds, hor, hon, hoc⟩ := loads_sound hm hold hm'
                have hnn : news.length = rn * es := by rw [hnl, hsz]
                obtain ⟨r1, r2, r3, r4⟩ := moved_sound hm hm' hB hor (i := j) hoc hnews hk hq hf (ext := cap' * es) (by rw [← ho2]; omega) (by rw [hon, hnn, ← Nat.add_mul]; exact Nat.mul_le_mul_right _ hge)
                rw [hon, ← hsz] at r2 r3 r4
                refine ⟨_, _, _, _, room m cap' hm' rfl hge r2 r3, .inl rfl, ?_, r4⟩
                subst ho2
                rw [hsz]
                have := VR.oslice (ρ := ρ) (μ := muSet μ q.1 ⟨m.blk, m.off + j, cap' * (es' + 1)⟩) q.1 0 (len + rn) (len + rn) es' cap' _ (muSet_same _ _) (Nat.le_refl _) hge (by show 0 + cap' * (es' + 1) = cap' * (es' + 1); omega)
                exact this
          · rw [ho] at h
            simp only [bsel_true, oget_some] at h
            obtain ⟨q, hq, e⟩ := h
            cases e
            have ho := Nat.eq_of_beq_eq_true ho
            subst ho
            cases gs with
            | slice _ _ _ _ m hm' hle => exact grow' m cap hm' rfl (by omega) (fun _ _ h => h) hm hf rfl hq rfl
        · rw [hb] at h
          simp only [bsel_true, oget_some] at h
          obtain ⟨S1, hst, e⟩ := h
          cases e
          have hb := Nat.le_of_ble_eq_true hb
          have key : ∀ (m : Loc) (sCap : Nat), μ b = some m → X = .slice (some ⟨m.blk, m.off + j, none⟩) len sCap → cap ≤ sCap → VR ρ μ (.slice (some (b, j)) (len + rn) cap opn) (.slice (some ⟨m.blk, m.off + j, none⟩) (len + rn) sCap) →
              Did P ρ μ S w a ⟨dst, .call c, type, pos, after, guard⟩ (.slice (some (b, j)) (len + rn) cap opn) S' := fun m sCap hm' eX hle hvr => by
            obtain ⟨k1, k2, k3, _⟩ := stores_sound hm hst hm' hnews
            have eo : m.off + (j + len * es) = m.off + j + len * i.size := by rw [hsz]; omega
            rw [eo] at k1 k2 k3
            exact ⟨μ, _, _, _, room m sCap hm' eX (by omega) k1 k2, .inl rfl, hvr, k3⟩
          cases gs with
          | slice _ _ _ _ m hm' hle => exact key m cap hm' rfl (Nat.le_refl _) (.slice _ _ _ _ m hm' hb)
          | oslice _ _ _ _ es' cap' m hm' hle hle2 hext => exact key m cap' hm' rfl hle2 (.oslice _ _ _ _ es' cap' m hm' hb hle2 hext)
      · cases h
    · cases h
  · cases h

theorem copy_did {c : Call} (hc : c.callee = .builtin .copy) {dst : Option Tmp} {type : TypeId} {pos : String} {after : Array Edge} {guard : Option (Nat × Bool)} {v : AVal}
    (h : evOp C P orc F E S ⟨dst, .call c, type, pos, after, guard⟩ = some (v, S')) (ha : AR ρ μ F E a) (hm : HR ρ μ S w) :
    Did P ρ μ S w a ⟨dst, .call c, type, pos, after, guard⟩ v S' := by
  simp only [evOp, callAny, hc] at h
  split at h
  · rename_i d x T xT hargs hT
    rw [oget_some] at h
    obtain ⟨ud, hud, h⟩ := h
    rw [oget_some] at h
    obtain ⟨ux, hux, h⟩ := h
    rw [oget_some] at h
    obtain ⟨es, hes, h⟩ := h
    rw [bsel_none] at h
    obtain ⟨h1, h⟩ := h
    have h1 := Nat.eq_of_beq_eq_true h1
    subst h1
    obtain ⟨e, i, he, hi, hsz⟩ := eltSize_eq hes
    have hone : (P.info? e).map (·.size) = some 1 := by rw [hi]; simp [hsz]
    have gd := evo_sound hud ha
    have gx := evo_sound hux ha
    have exec : ∀ {z : Value} {w' : World}, (Builtin.copy_ #[T, xT] type #[a.eval d, a.eval x]).run P w = .ok z w' → (execOp a.eval ⟨dst, .call c, type, pos, after, guard⟩).run P w = .ok (.value z) w' := fun {z w'} hh => by
      refine exec_builtin hc ?_
      rw [array_two hT, args_two hargs a.eval]
      simp only [builtin, Sem.run_bind, hh, Result.andThen_ok, Sem.run_pure]
    have none' : ∀ (dA xA : Option Addr) (dL dC xL xC : Nat), a.eval d = .slice dA dL dC → a.eval x = .slice xA xL xC → Nat.min xL dL = 0 → Did P ρ μ S w a ⟨dst, .call c, type, pos, after, guard⟩ (.int .i64 0) S := fun dA xA dL dC xL xC e1 e2 e3 => by
      have := run_copy_none (P := P) w T xT type e dA xA dL dC xL xC he hone e3
      rw [← e1, ← e2] at this
      exact ⟨μ, _, w, _, exec this, .inl rfl, .int _ _, .refl hm⟩
    generalize exd : a.eval d = D at gd
    generalize exx : a.eval x = X at gx
    split at h
    · split at h
      · cases h
        cases gd
        cases gx <;> exact none' _ _ _ _ _ _ exd exx (Nat.min_zero _)
      · cases h
    · rename_i b j len _ _
      split at h
      · cases h
        cases gx
        cases gd <;> exact none' _ _ _ _ _ _ exd exx (Nat.zero_min _)
      · rename_i b' j' len' _ _
        rw [forceN_eq] at h
        rw [oget_some] at h
        obtain ⟨l, hl, h⟩ := h
        simp only [bsel_none, oget_some] at h
        obtain ⟨hal, S1, hst, e⟩ := h
        cases e
        have hmin : bsel (Nat.ble len' len) len' len = Nat.min len' len := by
          cases hb : Nat.ble len' len
          · have : ¬ len' ≤ len := fun hh => by rw [Nat.ble_eq_true_of_le hh] at hb; cases hb
            show len = min len' len
            omega
          · have := Nat.le_of_ble_eq_true hb
            show len' = min len' len
            omega
        rw [hmin] at hl ⊢
        have key : ∀ (m m' : Loc) (c1 c2 : Nat), μ b = some m → μ b' = some m' → D = .slice (some ⟨m.blk, m.off + j, none⟩) len c1 → X = .slice (some ⟨m'.blk, m'.off + j', none⟩) len' c2 → Did P ρ μ S w a ⟨dst, .call c, type, pos, after, guard⟩ (.int .i64 (Nat.min len' len)) S' := fun m m' c1 c2 hm1 hm2 eD eX => by
          obtain ⟨hlen, r, hr, hrl, hcs⟩ := loads_sound hm hl hm2
          obtain ⟨k1, k2, k3, _⟩ := stores_sound hm hst hm1 hr
          have := run_copy_cells (P := P) w T xT type e m.blk (m.off + j) len c1 ⟨m'.blk, m'.off + j', none⟩ len' c2 r he hone hrl (fun k u hu => by rw [add_lit]; exact hcs k u hu) k1 k2 (allCells_one hr hal)
          rw [← eD, ← eX, ← exd, ← exx] at this
          refine ⟨μ, _, _, _, exec this, .inl rfl, ?_, k3⟩
          rw [hrl]
          exact .int _ _
        cases gd with
        | slice _ _ _ _ m hm1 _ =>
          cases gx with
          | slice _ _ _ _ m' hm2 _ => exact key m m' _ _ hm1 hm2 rfl rfl
          | oslice _ _ _ _ _ _ m' hm2 _ _ _ => exact key m m' _ _ hm1 hm2 rfl rfl
        | oslice _ _ _ _ _ _ m hm1 _ _ _ =>
          cases gx with
          | slice _ _ _ _ m' hm2 _ => exact key m m' _ _ hm1 hm2 rfl rfl
          | oslice _ _ _ _ _ _ m' hm2 _ _ _ => exact key m m' _ _ hm1 hm2 rfl rfl
      · cases h
    · cases h
  · cases h
end
end Go.Abs
