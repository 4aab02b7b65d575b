/- Operations that read memory, and that make blocks. -/
import Derived.Test.YtmppkccbjmeihaaGreatAb10
import Derived.Laws.BytesString
import Derived.Laws.IdiomStrings
import Derived.Laws.NewFold
import Derived.Laws.MakeOwn
namespace Go.Abs
set_option autoImplicit true
set_option relaxedAutoImplicit true
set_option linter.unusedVariables false
set_option linter.unusedSimpArgs false
set_option linter.unusedSectionVars false
open Go.RowKit

/-- Operations that read memory. -/
def isR (P : Program) (o : Op) : Bool :=
  match o with
  | .load .. | .lookup .. => true
  | .convert s d _ => bsel (isSliceT P s) (isStringT P d) false
  | _ => false
/-- Operations that make a block. -/
def isA (P : Program) (o : Op) : Bool :=
  match o with
  | .alloc _ | .box .. | .buildSlice .. | .makeMap .. | .makeSlice .. => true
  | .convert s d _ => bsel (isStringT P s) (isSliceT P d) false
  | _ => false

section
variable {P : Program} {ρ : Nat → Int} {μ : Mu} {F : Fr} {E : Env} {a : Act} {S S' : St} {C : Handler} {orc : SB → Option Bool} {w : World}

theorem isU8_eq {t : TypeId} (h : isU8 P t = true) : ∃ e, P.underlying t = some (.slice e) ∧ P.underlying e = some (.int .u8) := by
  unfold isU8 at h
  split at h
  · rename_i e he
    split at h
    · exact ⟨e, he, ‹_›⟩
    · cases h
  · cases h
theorem strOf_sound : ∀ {l : List AVal} {r : List UInt8} {xs : List Value}, strOf l = some r → VRs ρ μ l xs → ∃ ns : List Int, xs = ns.map (Value.int .u8) ∧ r = ns.map fun n => UInt8.ofNat n.toNat
  | [], r, xs, h, hv => by cases h; cases hv; exact ⟨[], rfl, rfl⟩
  | v :: l, r, xs, h, hv => by
    unfold strOf at h
    split at h
    · rename_i heq
      cases heq
    · rename_i heq
      cases heq
      simp only [oget_some] at h
      obtain ⟨r', hr, e⟩ := h
      cases e
      cases hv with
      | cons _ x _ xs' h1 hs =>
        cases h1
        obtain ⟨ns, e1, e2⟩ := strOf_sound hr hs
        subst e1; subst e2
        exact ⟨_ :: ns, rfl, rfl⟩
    · cases h
theorem push_all : ∀ (ns : List Int) (b : ByteArray), ns.foldl (fun r n => r.push (UInt8.ofNat n.toNat)) b = ⟨b.data ++ (ns.map fun n => UInt8.ofNat n.toNat).toArray⟩
  | [], b => by simp
  | n :: ns, b => by
    rw [List.foldl_cons, push_all ns]
    simp [ByteArray.push]

theorem lookupA_sound {T : TypeId} {es : Array MapEntry} {k : Value} {ok : Bool} {v : AVal} (h : lookupA P T es k ok = some v) :
    ∃ x, VR ρ μ v x ∧ ∀ (m : Value) (w : World), (m = .map none ∧ es = #[] ∨ ∃ r cl, m = .map (some r) ∧ w.heap[r]? = some (.map es cl)) → (Instr.lookup T m k ok).run P w = .ok x w := by
  unfold lookupA at h
  split at h
  · rename_i key elem hT
    simp only [oget_some] at h
    obtain ⟨_, h1, r, h2, h⟩ := h
    have g1 := pureRun_sound (P := P) _ _ h1
    have g2 := pureRun_sound (P := P) _ _ h2
    have run : ∀ (m : Value) (w : World) {x : Value}, (m = .map none ∧ es = #[] ∨ ∃ r cl, m = .map (some r) ∧ w.heap[r]? = some (.map es cl)) →
        (∀ w, ((do
          let (v, ok') ← match r with
            | some (_, v) => pure (v, true)
            | none => pure (← zeroValue elem, false)
          pure (if ok then Value.tuple #[v, .bool ok'] else v) : Sem Value)).run P w = .ok x w) → (Instr.lookup T m k ok).run P w = .ok x w := fun m w x hm hx => by
      rcases hm with ⟨rfl, rfl⟩ | ⟨r', cl, rfl, hr⟩
      · have := hx w
        simp only [Instr.lookup, Sem.run_bind, run_underlying hT, Result.andThen_ok, Sem.run_pure, g1, g2] at this ⊢
        exact this
      · have := hx w
        have hg : (getObj r').run P w = .ok (.map es cl) w := by simp [getObj, Sem.run, hr]
        simp only [Instr.lookup, Sem.run_bind, run_underlying hT, Result.andThen_ok, hg, Sem.run_pure, g1, g2] at this ⊢
        exact this
    split at h
    · rename_i j u
      cases ok
      · exact ⟨u, ofScalar_VR h, fun m w hm => run m w hm fun w => by simp⟩
      · simp only [bsel_true, oget_some] at h
        obtain ⟨u', hu, e⟩ := h
        cases e
        exact ⟨.tuple #[u, .bool true], by simpa using VR.tuple (ρ := ρ) (μ := μ) _ _ (.cons _ _ _ _ (ofScalar_VR hu) (.cons _ _ _ _ (.bool true) .nil)), fun m w hm => run m w hm fun w => by simp⟩
    · simp only [oget_some] at h
      obtain ⟨i, hi, u, hu, h⟩ := h
      have hz := run_zeroValue' (P := P) hi hu
      cases ok
      · exact ⟨u, ofScalar_VR h, fun m w hm => run m w hm fun w => by simp [hz]⟩
      · simp only [bsel_true, oget_some] at h
        obtain ⟨u', hu', e⟩ := h
        cases e
        exact ⟨.tuple #[u, .bool false], by simpa using VR.tuple (ρ := ρ) (μ := μ) _ _ (.cons _ _ _ _ (ofScalar_VR hu') (.cons _ _ _ _ (.bool false) .nil)), fun m w hm => run m w hm fun w => by simp [hz]⟩
  · cases h

theorem run_loadVar1 {t : TypeId} {A : Addr} {x : Value} (h1 : (isAgg t).run P w = .ok false w) (h : w.cell? A = some x) : (loadVar t A).run P w = .ok x w := by
  simp [loadVar, h1, h]
theorem run_loadVarN {t : TypeId} {A : Addr} {i : TypeInfo} {r : List Value} (h1 : (isAgg t).run P w = .ok true w) (hi : P.info? t = some i) (hr : r.length = i.size) (h : ∀ j x, r[j]? = some x → w.cell? (A.add j) = some x) :
    (loadVar t A).run P w = .ok (.agg r.toArray) w := by
  have := run_loadCells_list (P := P) w A r h
  rw [hr] at this
  simp [loadVar, h1, sizeOf, typeInfo, hi, this]

theorem R_sound {o : Oper} {v : AVal} (hp : isR P o.op = true) (h : evOp C P orc F E S o = some (v, S')) :
    S' = S ∧ ∀ {μ : Mu} {a : Act} {w : World}, AR ρ μ F E a → HR ρ μ S w → ∃ x, VR ρ μ v x ∧ (execOp a.eval o).run P w = .ok (.value x) w := by
  obtain ⟨dst, op, type, pos, after, guard⟩ := o
  cases op <;> first | (simp [isR] at hp; done) | skip
  case load t x =>
    simp only [evOp] at h
    rw [oget_some] at h
    obtain ⟨u, hu, h⟩ := h
    rw [oget_some] at h
    obtain ⟨z, hz, h⟩ := h
    split at h
    · rename_i b i
      split at h
      · simp only [oget_some] at h
        obtain ⟨r, hr, e⟩ := h
        cases e
        refine ⟨rfl, fun {μ a w} ha hm => ?_⟩
        have g := evo_sound hu ha
        generalize ex : a.eval x = X at g
        cases g with
        | ptr _ _ m hm' =>
          obtain ⟨y, hy, hv⟩ := load_sound hm hr hm'
          refine ⟨y, hv, exec_value (s := Instr.loadAt t (a.eval x)) rfl ?_⟩
          rw [ex]
          rcases aggSize_eq hz with ⟨n, i', e2, _⟩ | ⟨_, hag⟩
          · cases e2
          · simp [Instr.loadAt, Instr.sureAddr, run_loadVar1 (hag w) hy]
      · rename_i n
        simp only [oget_some] at h
        obtain ⟨l, hl, e⟩ := h
        cases e
        refine ⟨rfl, fun {μ a w} ha hm => ?_⟩
        have g := evo_sound hu ha
        generalize ex : a.eval x = X at g
        cases g with
        | ptr _ _ m hm' =>
          obtain ⟨hlen, r, hr, hrl, hc⟩ := loads_sound hm hl hm'
          refine ⟨_, .agg _ _ hr, exec_value (s := Instr.loadAt t (a.eval x)) rfl ?_⟩
          rw [ex]
          rcases aggSize_eq hz with ⟨n', i', e2, hi, hsz, hag⟩ | ⟨e2, _⟩
          · cases e2
            have := run_loadVarN (P := P) (t := t) (A := ⟨m.blk, m.off + i, none⟩) (r := r) (hag w) hi (by omega) (fun j y hy => by rw [add_lit]; exact hc j y hy)
            simp [Instr.loadAt, Instr.sureAddr, this]
          · cases e2
    · cases h
  case lookup T m k ok =>
    simp only [evOp] at h
    rw [oget_some] at h
    obtain ⟨um, hum, h⟩ := h
    rw [oget_some] at h
    obtain ⟨uk, huk, h⟩ := h
    rw [oget_some] at h
    obtain ⟨kv, hkv, h⟩ := h
    split at h
    · simp only [oget_some] at h
      obtain ⟨r, hr, e⟩ := h
      cases e
      refine ⟨rfl, fun {μ a w} ha hm => ?_⟩
      have g := evo_sound hum ha
      have gk := toV_eq hkv (evo_sound huk ha)
      generalize ex : a.eval m = X at g
      cases g
      obtain ⟨x, hx, hw⟩ := lookupA_sound (ρ := ρ) (μ := μ) hr
      refine ⟨x, hx, exec_value (s := Instr.lookup T (a.eval m) (a.eval k) ok) rfl ?_⟩
      rw [ex, gk]
      exact hw _ _ (.inl ⟨rfl, rfl⟩)
    · rw [oget_some] at h
      obtain ⟨B, hB, h⟩ := h
      split at h
      · simp only [oget_some] at h
        obtain ⟨r, hr, e⟩ := h
        cases e
        refine ⟨rfl, fun {μ a w} ha hm => ?_⟩
        have g := evo_sound hum ha
        have gk := toV_eq hkv (evo_sound huk ha)
        generalize ex : a.eval m = X at g
        cases g with
        | map _ l hl =>
          obtain ⟨x, hx, hw⟩ := lookupA_sound (ρ := ρ) (μ := μ) hr
          refine ⟨x, hx, exec_value (s := Instr.lookup T (a.eval m) (a.eval k) ok) rfl ?_⟩
          rw [ex, gk]
          exact hw _ _ (.inr ⟨_, _, rfl, hm.maps _ _ _ _ hB hl⟩)
      · cases h
    · cases h
  case convert s d x =>
    simp only [isR] at hp
    have hs : isSliceT P s = true := by cases e : isSliceT P s <;> rw [e] at hp <;> first | rfl | cases hp
    rw [hs, bsel_true] at hp
    obtain ⟨es, hse⟩ := isSliceT_eq hs
    have hd := isStringT_eq hp
    simp only [evOp] at h
    rw [oget_some] at h
    obtain ⟨u, hu, h⟩ := h
    have nog : isIntT P d = none := by unfold isIntT; rw [hd]
    split at h
    · rw [nog] at h
      simp only [oget_some] at h
      obtain ⟨r, hr, e⟩ := h
      cases e
      exact ⟨rfl, fun {μ a w} ha hm => let ⟨x, hx, hw⟩ := generic_sound hr ha; ⟨x, hx, hw w⟩⟩
    · rw [nog] at h
      simp only [oget_some] at h
      obtain ⟨_, _, _, hk, _⟩ := h
      cases hk
    · rename_i p len cap opn
      rw [hp, bsel_true, bsel_none] at h
      simp only [oget_some] at h
      obtain ⟨hu8, l, hl, bs, hbs, e⟩ := h
      cases e
      obtain ⟨e, he1, he2⟩ := isU8_eq hu8
      refine ⟨rfl, fun {μ a w} ha hm => ?_⟩
      have g := evo_sound hu ha
      generalize ex : a.eval x = X at g
      have key : ∀ (m : Loc) (c : Nat), μ p.1 = some m → X = .slice (some ⟨m.blk, m.off + p.2, none⟩) len c → ∃ y, VR ρ μ (.str ⟨bs.toArray⟩) y ∧ (execOp a.eval ⟨dst, .convert s d x, type, pos, after, guard⟩).run P w = .ok (.value y) w := fun m c hm' eX => by
        obtain ⟨hlen, r, hr, hrl, hc⟩ := loads_sound hm hl hm'
        obtain ⟨ns, e1, e2⟩ := strOf_sound hbs hr
        refine ⟨_, .str _, exec_value (s := Go.convert s d (a.eval x)) rfl ?_⟩
        rw [ex, eX, run_convert_bytes_string w s d e _ _ _ he1 he2 hd, run_bytesToString w _ len c ns, push_all, e2]
        · simp
        · rw [← e1, ← hrl]
          exact run_loadCells_list (P := P) w _ r (fun j y hy => by rw [add_lit]; exact hc j y hy)
      cases g with
      | slice _ _ _ _ m hm' _ => exact key m cap hm' rfl
      | oslice _ _ _ _ _ cap' m hm' _ _ _ => exact key m cap' hm' rfl
    · rw [hp, bsel_true, bsel_none] at h
      obtain ⟨hu8, h⟩ := h
      cases h
      obtain ⟨e, he1, he2⟩ := isU8_eq hu8
      refine ⟨rfl, fun {μ a w} ha hm => ?_⟩
      have g := evo_sound hu ha
      generalize ex : a.eval x = X at g
      cases g
      refine ⟨_, .str _, exec_value (s := Go.convert s d (a.eval x)) rfl ?_⟩
      rw [ex, run_convert_bytes_string w s d e _ _ _ he1 he2 hd]
      rfl
    · rw [hp, bsel_true, bsel_none] at h
      obtain ⟨h1, _⟩ := h
      have := isStringT_eq h1
      rw [hse] at this
      cases this
    · simp only [oget_some] at h
      obtain ⟨r, hr, e⟩ := h
      cases e
      exact ⟨rfl, fun {μ a w} ha hm => let ⟨x, hx, hw⟩ := generic_sound hr ha; ⟨x, hx, hw w⟩⟩

theorem range_flat (z : List Value) (n : Nat) : (List.range (n * z.length)).map (fun i => z[i % z.length]!) = (List.replicate n z).flatten := by
  induction n with
  | zero => simp
  | succ n ih =>
    rw [Nat.succ_mul, List.range_add, List.map_append, ih, List.replicate_succ', List.flatten_append]
    congr 1
    simp only [List.map_map, List.flatten_cons, List.flatten_nil, List.append_nil]
    apply List.ext_getElem
    · simp
    · intro j h1 h2
      have hj : j < z.length := h2
      simp [Nat.mod_eq_of_lt hj, hj]
theorem madeCells_VRs {z : List AVal} {zero : Array Value} (h : VRs ρ μ z zero.toList) (n : Nat) : VRs ρ μ (List.replicate n z).flatten (madeCells zero (n * zero.size)).toList := by
  have e : (madeCells zero (n * zero.size)).toList = (List.replicate n zero.toList).flatten := by
    have := range_flat zero.toList n
    rw [← this]
    simp only [madeCells, Array.toList_map, Array.toList_range, Array.length_toList]
    apply List.map_congr_left
    intro a ha
    simp [getElem!_def]
  rw [e]
  exact h.flatten_replicate n
theorem zeroCells_cell (n : Nat) (z : List AVal) (i : Nat) : (zeroCells n z).cell i = (List.replicate n z).flatten[i]? := by
  unfold zeroCells
  split
  · rename_i v
    rw [cell_cells]
    have : (Tr.leaf : Tr AVal).get i = none := rfl
    rw [this]
    have e : (List.replicate n [v]).flatten = List.replicate n v := by induction n with
      | zero => rfl
      | succ n ih => simp [List.replicate_succ, ih]
    rw [e, List.getElem?_replicate]
    rfl
  · exact mkCells_cell _ i
theorem NewOK.arr {B : ABlk} {l : List AVal} {arr : Array Value} (hB : B ≠ .dead) (hm : ∀ es cl, B ≠ .amap es cl) (hc : ∀ i, B.cell i = l[i]?) (hr : VRs ρ μ l arr.toList) (T : TypeId) (lo hi : Nat) (hz : lo = hi ∨ arr.size ≤ lo) (k : Nat) :
    NewOK ρ μ B (.cells arr T (lo, hi)) ⟨k, 0, arr.size⟩ := by
  cases B with
  | dead => exact absurd rfl hB
  | amap es cl => exact absurd rfl (hm es cl)
  | cells n d t =>
    have hlen : l.length = arr.size := by simpa using hr.length
    refine ⟨rfl, ?_, arr, T, lo, hi, rfl, hz, Nat.le_refl _, fun i v hv => ?_⟩
    · show n ≤ arr.size
      rcases Nat.lt_or_ge arr.size n with h | h
      · have := hc arr.size
        rw [cell_cells, if_pos h, List.getElem?_eq_none (by omega)] at this
        cases this
      · exact h
    · rw [hc i] at hv
      obtain ⟨x, hx, hv'⟩ := hr.get hv
      exact ⟨x, by simpa using hx, hv'⟩
theorem mkCells_ne (l : List AVal) : mkCells l ≠ .dead ∧ ∀ es cl, mkCells l ≠ .amap es cl := by
  unfold mkCells; rw [forceN_eq]; exact ⟨by simp, by simp⟩
theorem zeroCells_ne (n : Nat) (z : List AVal) : zeroCells n z ≠ .dead ∧ ∀ es cl, zeroCells n z ≠ .amap es cl := by
  unfold zeroCells
  split
  · exact ⟨by simp, by simp⟩
  · exact mkCells_ne _
theorem NewOK.mkArr {l : List AVal} {arr : Array Value} (hr : VRs ρ μ l arr.toList) (T : TypeId) (lo hi : Nat) (hz : lo = hi ∨ arr.size ≤ lo) (k : Nat) :
    NewOK ρ μ (mkCells l) (.cells arr T (lo, hi)) ⟨k, 0, arr.size⟩ := .arr (mkCells_ne l).1 (mkCells_ne l).2 (mkCells_cell l) hr T lo hi hz k
theorem new_next {B : ABlk} {b : Nat} (h : S.new B = some (b, S')) : b = S.next := by rw [St.new_eq] at h; cases h; rfl

/-- What an operation that makes a block comes to: the block, its value. -/
theorem A_sound {o : Oper} {v : AVal} (hp : isA P o.op = true) (h : evOp C P orc F E S o = some (v, S')) :
    (S' = S ∧ ∀ {μ : Mu} {a : Act}, AR ρ μ F E a → ∃ x, VR ρ μ v x ∧ ∀ w, (execOp a.eval o).run P w = .ok (.value x) w) ∨
    ∃ B, S.new B = some (S.next, S') ∧ ∀ {μ : Mu} {a : Act}, AR ρ μ F E a → ∀ w : World, ∃ ob m x w0, (w0 = w ∨ w0 = w.drew) ∧ m.blk = w.heap.size ∧ NewOK ρ μ B ob m ∧
      (execOp a.eval o).run P w = .ok (.value x) (w0.alloc ob) ∧ ∀ μ' : Mu, μ' S.next = some m → (∀ b m, μ b = some m → μ' b = some m) → VR ρ μ' v x := by
  obtain ⟨dst, op, type, pos, after, guard⟩ := o
  cases op <;> first | (simp [isA] at hp; done) | skip
  case alloc T =>
    simp only [evOp, oget_some] at h
    obtain ⟨z, hz, q, hq, e⟩ := h
    cases e
    have hb := new_next hq
    refine .inr ⟨_, by rw [← hb]; exact hq, fun {μ a} ha w => ?_⟩
    obtain ⟨i, zv, hi, hzv, hsc⟩ := typeZero_eq hz
    refine ⟨.cells zv.cells T (0, 0), ⟨w.heap.size, 0, zv.cells.size⟩, .pointer (some ⟨w.heap.size, 0, none⟩), w, .inl rfl, rfl, .mkArr (ofScalars_VRs hsc) _ _ _ (.inl rfl) _, exec_value (s := Instr.alloc T true (.tuple #[])) rfl ?_, fun μ' hm hmono => ?_⟩
    · simp only [Instr.alloc, Sem.run_bind, run_zeroValue' hi hzv, Result.andThen_ok, newVar, newRow, run_newObj_alloc, Sem.run_pure]
    · rw [hb]; exact .ptr _ 0 _ hm
  case box T x =>
    simp only [evOp, oget_some] at h
    obtain ⟨u, hu, q, hq, e⟩ := h
    cases e
    have hb := new_next hq
    refine .inr ⟨_, by rw [← hb]; exact hq, fun {μ a} ha w => ?_⟩
    have hx := cells_VR (evo_sound hu ha)
    refine ⟨.cells (a.eval x).cells T (0, 0), ⟨w.heap.size, 0, (a.eval x).cells.size⟩, .pointer (some ⟨w.heap.size, 0, none⟩), w, .inl rfl, rfl, .mkArr hx _ _ _ (.inl rfl) _, exec_value (s := Instr.box T (a.eval x)) rfl ?_, fun μ' hm hmono => ?_⟩
    · simp only [Instr.box, Sem.run_bind, Result.andThen_ok, newVar, newRow, run_newObj_alloc, Sem.run_pure]
    · rw [hb]; exact .ptr _ 0 _ hm
  case buildSlice t n ps =>
    simp only [evOp, oget_some, bsel_none] at h
    obtain ⟨es, hes, z, hz, h1, h2, l, hl, q, hq, e⟩ := h
    cases e
    have hb := new_next hq
    have h1 := Nat.le_of_ble_eq_true h1
    have h2 := Nat.eq_of_beq_eq_true h2
    refine .inr ⟨_, by rw [← hb]; exact hq, fun {μ a} ha w => ?_⟩
    obtain ⟨e, i, he, hi, hsz⟩ := eltSize_eq hes
    obtain ⟨e', i', zv, he', hi', hzv, hsc⟩ := eltZero_eq hz
    rw [he] at he'
    cases he'
    rw [hi] at hi'
    cases hi'
    have hzr := ofScalars_VRs (ρ := ρ) (μ := μ) hsc
    have hzs : zv.cells.size = es := by have := hzr.length; simp at this; omega
    obtain ⟨arr, k1, k2⟩ := fillA_sound (arr := madeCells zv.cells (n * zv.cells.size)) ps.toList hl (madeCells_VRs hzr n) ha
    rw [hzs] at k1
    have hsize : n * es = arr.size := by
      have e1 := fillA_length _ hl
      have e2 := k2.length
      simp [h2] at e1 e2
      omega
    refine ⟨.cells arr e (0, 0), ⟨w.heap.size, 0, arr.size⟩, .slice (some ⟨w.heap.size, 0, none⟩) n n, w, .inl rfl, rfl, .mkArr k2 _ _ _ (.inl rfl) _, exec_value (s := Instr.buildSlice t n (ps.map fun (i, x) => (i, a.eval x))) rfl ?_, fun μ' hm hmono => ?_⟩
    · have e3 : (ps.map fun x => (x.1, a.eval x.2)).toList = ps.toList.map fun p => (p.1, a.eval p.2) := by simp
      by_cases h0 : n * es = 0
      · have k1' : Instr.fill (fun i => some (i * es, es)) (Array.map (fun x => (#[] : Array Value)[x % (#[] : Array Value).size]!) (Array.range (n * es))) (ps.toList.map fun p => (p.1, a.eval p.2)) = some arr := by
          rw [← k1]; congr 1; rw [h0]; simp [madeCells]
        simp only [Instr.buildSlice, Sem.run_bind, run_underlying he, Result.andThen_ok, sizeOf, typeInfo, run_program, hi, hsz, Sem.run_pure, h0, if_true, e3]
        rw [h0] at k1'
        simp [h0, k1', newRow]
        simp at k1'
        simp [k1']
      · have k1' : Instr.fill (fun i => some (i * es, es)) (Array.map (fun x => zv.cells[x % zv.cells.size]!) (Array.range (n * es))) (ps.toList.map fun p => (p.1, a.eval p.2)) = some arr := k1
        simp only [Instr.buildSlice, Sem.run_bind, run_underlying he, Result.andThen_ok, sizeOf, typeInfo, run_program, hi, hsz, Sem.run_pure, h0, if_false, e3, run_zeroValue' hi hzv]
        rw [if_neg (by omega)]
        simp [run_zeroValue' hi hzv, k1', newRow]
    · rw [hb]
      have := VR.slice (ρ := ρ) (μ := μ') S.next 0 n n ⟨w.heap.size, 0, arr.size⟩ hm (Nat.le_refl _)
      simpa using this
  case makeMap t r =>
    cases r
    case some r =>
      simp only [evOp, oget_some] at h
      obtain ⟨u, hu, e⟩ := h
      cases e
      exact .inl ⟨rfl, fun ha => generic_sound hu ha⟩
    case none =>
      simp only [evOp, oget_some] at h
      obtain ⟨q, hq, e⟩ := h
      cases e
      have hb := new_next hq
      refine .inr ⟨_, by rw [← hb]; exact hq, fun {μ a} ha w => ?_⟩
      refine ⟨.map #[] 0, ⟨w.heap.size, 0, 0⟩, .map (some w.heap.size), w, .inl rfl, rfl, rfl, exec_value (s := Instr.makeMap t none) rfl ?_, fun μ' hm hmono => ?_⟩
      · simp [Instr.makeMap]
      · rw [hb]; exact .map _ _ hm
  case makeSlice t lo co =>
    simp only [evOp] at h
    simp only [oget_some] at h
    obtain ⟨ul, hul, uc, huc, es, hes, z, hz, by_, hby, h⟩ := h
    split at h
    · rename_i k1 l k2 c
      simp only [oget_some, bsel_none] at h
      obtain ⟨h1, h2, h3, h4, q, hq, e⟩ := h
      cases e
      have hb := new_next hq
      have h1 := Nat.le_of_ble_eq_true h1
      have h2 := Nat.le_of_ble_eq_true h2
      have h3 := Nat.le_of_ble_eq_true h3
      have h4 := Nat.eq_of_beq_eq_true h4
      refine .inr ⟨_, by rw [← hb]; exact hq, fun {μ a} ha w => ?_⟩
      obtain ⟨e, i, he, hi, hsz⟩ := eltSize_eq hes
      obtain ⟨e', i', zv, he', hi', hzv, hsc⟩ := eltZero_eq hz
      rw [he] at he'
      cases he'
      rw [hi] at hi'
      cases hi'
      have hbb : i.bytes = by_ := by
        unfold eltBytes at hby
        rw [he] at hby
        simp [hi] at hby
        exact hby
      have hzr := ofScalars_VRs (ρ := ρ) (μ := μ) hsc
      have hzs : zv.cells.size = i.size := by have := hzr.length; simp at this; omega
      have gl := evo_sound hul ha
      have gc := evo_sound huc ha
      generalize el : a.eval lo = XL at gl
      generalize ec : a.eval co = XC at gc
      cases gl
      cases gc
      have hv := madeCells_VRs hzr c
      have hsize : c * zv.cells.size = (madeCells zv.cells (c * zv.cells.size)).size := by rw [size_madeCells]
      refine ⟨.cells (madeCells zv.cells (c * zv.cells.size)) e (0, 0), ⟨w.heap.size, 0, (madeCells zv.cells (c * zv.cells.size)).size⟩, .slice (some ⟨w.heap.size, 0, none⟩) l c, w, .inl rfl, rfl,
        .arr (zeroCells_ne c z).1 (zeroCells_ne c z).2 (zeroCells_cell c z) hv _ _ _ (.inl rfl) _, exec_value (s := Instr.makeSlice t (a.eval lo) (a.eval co)) rfl ?_, fun μ' hm hmono => ?_⟩
      · rw [el, ec]
        have := run_make w t e i zv he hi hzv k1 k2 (l : Int) (c : Int) (by omega) (by omega) (by
          have : ((i.bytes * c : Nat) : Int) ≤ 281474976710656 := by rw [hbb, Nat.mul_comm]; omega
          rwa [Int.natCast_mul] at this) (by omega)
        rw [hzs]
        simpa using this
      · rw [hb]
        have := VR.slice (ρ := ρ) (μ := μ') S.next 0 l c ⟨w.heap.size, 0, (madeCells zv.cells (c * zv.cells.size)).size⟩ hm h1
        simpa using this
    · cases h
  case convert s d x =>
    simp only [isA] at hp
    have hs : isStringT P s = true := by cases e : isStringT P s <;> rw [e] at hp <;> first | rfl | cases hp
    rw [hs, bsel_true] at hp
    have hs' := isStringT_eq hs
    obtain ⟨el, hd⟩ := isSliceT_eq hp
    have nog : isIntT P d = none := by unfold isIntT; rw [hd]
    have nos : isStringT P d = false := by unfold isStringT; rw [hd]
    simp only [evOp] at h
    rw [oget_some] at h
    obtain ⟨u, hu, h⟩ := h
    have gen : ∀ {r : Option AVal}, r = generic P F E ⟨dst, .convert s d x, type, pos, after, guard⟩ → (oget r fun v => some (v, S)) = some (v, S') →
        S' = S ∧ ∀ {μ : Mu} {a : Act}, AR ρ μ F E a → ∃ x_1, VR ρ μ v x_1 ∧ ∀ w, (execOp a.eval ⟨dst, .convert s d x, type, pos, after, guard⟩).run P w = .ok (.value x_1) w := fun e hh => by
      subst e
      simp only [oget_some] at hh
      obtain ⟨u, hu, e⟩ := hh
      cases e
      exact ⟨rfl, fun ha => generic_sound hu ha⟩
    split at h
    · rw [nog] at h
      exact .inl (gen rfl h)
    · rw [nog] at h
      simp only [oget_some] at h
      obtain ⟨_, _, _, hk, _⟩ := h
      cases hk
    · rw [nos] at h
      simp only [bsel_false, bsel_none] at h
      obtain ⟨e1, hu8, _⟩ := h
      have e1 := Nat.eq_of_beq_eq_true e1
      subst e1
      rw [hs'] at hd
      cases hd
    · rw [nos] at h
      simp [bsel] at h
    · rename_i b
      rw [nos] at h
      simp only [bsel_false, bsel_none, oget_some] at h
      obtain ⟨_, hu8, q, hq, e⟩ := h
      cases e
      have hb := new_next hq
      obtain ⟨e, he1, he2⟩ := isU8_eq hu8
      refine .inr ⟨_, by rw [← hb]; exact hq, fun {μ a} ha w => ?_⟩
      have g := evo_sound hu ha
      generalize ex : a.eval x = X at g
      cases g
      have hge := grownCap_ge w b.size 0 e
      have hsz : (bytesRow b (grownCap w b.size 0 e)).size = grownCap w b.size 0 e := by simp [bytesRow]; omega
      have hbs : VRs ρ μ (bytesOfStr b) (b.data.map fun b => Value.int .u8 b.toNat).toList := by
        unfold bytesOfStr
        simp only [Array.toList_map]
        generalize b.data.toList = L
        induction L with
        | nil => exact .nil
        | cons y L ih => exact .cons _ _ _ _ (.int _ _) ih
      have hlen : (bytesOfStr b).length = b.size := by simp [bytesOfStr]
      refine ⟨_, ⟨w.heap.size, 0, grownCap w b.size 0 e⟩, _, w.drew, .inr rfl, rfl, ?_, exec_value (s := Go.convert s d (a.eval x)) rfl (by rw [ex]; exact run_bytes_of_string w s d e b hs' he1 he2), fun μ' hm hmono => ?_⟩
      · have := NewOK.mk (rest := List.replicate (grownCap w b.size 0 e - b.size) (.int .u8 0)) hbs e (bytesRow b (grownCap w b.size 0 e)).size ((bytesRow b (grownCap w b.size 0 e)).size + 1) (.inr (by rw [hsz]; simp; omega)) w.heap.size
        have e1 : ((b.data.map fun b => Value.int .u8 b.toNat).toList ++ List.replicate (grownCap w b.size 0 e - b.size) (Value.int .u8 0)).toArray = bytesRow b (grownCap w b.size 0 e) := by
          unfold bytesRow; apply Array.ext'; simp
        have e2 : (b.data.map fun b => Value.int .u8 b.toNat).toList.length + (List.replicate (grownCap w b.size 0 e - b.size) (Value.int .u8 0)).length = grownCap w b.size 0 e := by simp; omega
        rw [e1, e2] at this
        exact this
      · rw [hb]
        have := VR.oslice (ρ := ρ) (μ := μ') S.next 0 b.size b.size 0 (grownCap w b.size 0 e) ⟨w.heap.size, 0, grownCap w b.size 0 e⟩ hm (Nat.le_refl _) hge (by simp)
        simpa using this
    · exact .inl (gen rfl h)
end
end Go.Abs
