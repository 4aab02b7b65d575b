/- All operations that only reckon. -/
import Derived.Test.YtmppkccbjmeihaaGreatAb9
namespace Go.Abs
set_option autoImplicit true
set_option relaxedAutoImplicit true
set_option linter.unusedVariables false
set_option linter.unusedSimpArgs false
set_option linter.unusedSectionVars false
open Go.RowKit

/-- Operations that only reckon. -/
def isP (P : Program) (o : Op) : Bool :=
  match o with
  | .move _ | .assign _ | .pick .. | .build .. | .nilCheck _ | .binOp .. | .unOp .. | .makeInterface .. | .makeFunc .. | .slice .. | .fieldAddr .. | .field .. | .indexAddr .. | .index .. | .extract .. => true
  | .convert s d _ => bsel (isSliceT P s) (bsel (isStringT P d) false (bsel (isSliceT P d) false true)) (bsel (isSliceT P d) (bsel (isStringT P s) false true) true)
  | .call c => match c.callee with
    | .builtin .len | .builtin .cap | .builtin .min | .builtin .max => true
    | _ => false
  | _ => false

section
variable {P : Program} {ρ : Nat → Int} {μ : Mu} {F : Fr} {E : Env} {a : Act} {S S' : St} {C : Handler} {orc : SB → Option Bool}

theorem exec_value {g : Operand → Value} {o : Oper} {s : Sem Value} (h : execOp g o = (do pure (Next.value (← s)))) {z : Value} {w w' : World} (hs : s.run P w = .ok z w') : (execOp g o).run P w = .ok (.value z) w' := by
  rw [h]; simp only [Sem.run_bind, hs, Result.andThen_ok, Sem.run_pure]
theorem exec_skip {g : Operand → Value} {o : Oper} {s : Sem Unit} (h : execOp g o = (do s; pure Next.skip)) {w w' : World} (hs : s.run P w = .ok () w') : (execOp g o).run P w = .ok .skip w' := by
  rw [h]; simp only [Sem.run_bind, hs, Result.andThen_ok, Sem.run_pure]

theorem fieldOff_eq {s : TypeId} {f k : Nat} (h : fieldOff P s f = some k) : ∃ fs fd i, P.underlying s = some (.struct fs) ∧ fs[f]? = some fd ∧ P.info? fd.type = some i ∧ i.size ≠ 0 ∧ fd.offset = k := by
  unfold fieldOff at h
  split at h
  · rename_i fs hfs
    split at h
    · rename_i fd hfd
      split at h
      · rename_i i hi
        split at h
        · cases h
        · cases h; exact ⟨fs, fd, i, hfs, hfd, hi, ‹_›, rfl⟩
      · cases h
    · cases h
  · cases h
theorem aggSize_eq {t : TypeId} {z : Option Nat} (h : aggSize P t = some z) : (∃ n i, z = some n ∧ P.info? t = some i ∧ i.size = n ∧ ∀ w, (isAgg t).run P w = .ok true w) ∨ (z = none ∧ ∀ w, (isAgg t).run P w = .ok false w) := by
  unfold aggSize at h
  split at h
  · rename_i fs hfs
    cases hi : P.info? t with
    | none => rw [hi] at h; cases h
    | some i => rw [hi] at h; cases h; exact .inl ⟨_, i, rfl, rfl, rfl, fun w => by simp [isAgg, run_underlying hfs]⟩
  · rename_i n e hfs
    cases hi : P.info? t with
    | none => rw [hi] at h; cases h
    | some i => rw [hi] at h; cases h; exact .inl ⟨_, i, rfl, rfl, rfl, fun w => by simp [isAgg, run_underlying hfs]⟩
  · rename_i d h1 h2 hd
    cases h
    refine .inr ⟨rfl, fun w => ?_⟩
    simp only [isAgg, Sem.run_bind, run_underlying hd, Result.andThen_ok]
    rfl
  · cases h
theorem fieldAt_eq {s : TypeId} {f : Nat} {p : Nat × Option Nat} (h : fieldAt? P s f = some p) : ∃ fs fd, P.underlying s = some (.struct fs) ∧ fs[f]? = some fd ∧ fd.offset = p.1 ∧ aggSize P fd.type = some p.2 := by
  unfold fieldAt? at h
  split at h
  · rename_i fs hfs
    split at h
    · rename_i fd hfd
      cases hz : aggSize P fd.type with
      | none => rw [hz] at h; cases h
      | some z => rw [hz] at h; cases h; exact ⟨fs, fd, hfs, hfd, rfl, hz⟩
    · cases h
  · cases h

theorem resolve_builtin (g : Operand → Value) (c : Call) (b : Builtin) (type : TypeId) (hc : c.callee = .builtin b) (w : World) :
    (do let d ← resolve g c type; invoke d.target d.args : Sem Next).run P w = (builtin b c.argTypes type (c.args.map fun | .const _ => true | _ => false) (c.args.map g)).run P w := by
  simp only [resolve, hc, Sem.run_bind, Sem.run_pure, Result.andThen_ok, invoke]
  rfl

/-- Operations that only reckon: the machine's value, in whatever memory. -/
theorem P_sound (hor : ∀ c b, orc c = some b → c.den ρ = b) {o : Oper} {v : AVal} (hp : isP P o.op = true) (h : evOp C P orc F E S o = some (v, S')) :
    S' = S ∧ ∀ {μ : Mu} {a : Act}, AR ρ μ F E a → ∃ x, VR ρ μ v x ∧ ∀ w, (execOp a.eval o).run P w = .ok (.value x) w := by
  obtain ⟨dst, op, type, pos, after, guard⟩ := o
  have gen : ∀ {r : Option AVal}, r = generic P F E ⟨dst, op, type, pos, after, guard⟩ → (oget r fun v => some (v, S)) = some (v, S') →
      S' = S ∧ ∀ {μ : Mu} {a : Act}, AR ρ μ F E a → ∃ x, VR ρ μ v x ∧ ∀ w, (execOp a.eval ⟨dst, op, type, pos, after, guard⟩).run P w = .ok (.value x) w := fun e hh => by
    subst e
    simp only [oget_some] at hh
    obtain ⟨u, hu, e⟩ := hh
    cases e
    exact ⟨rfl, fun ha => generic_sound hu ha⟩
  cases op <;> first | (simp [isP] at hp; done) | skip
  case move x =>
    simp only [evOp, oget_some] at h
    obtain ⟨u, hu, e⟩ := h
    cases e
    exact ⟨rfl, fun ha => ⟨_, evo_sound hu ha, fun w => rfl⟩⟩
  case assign x =>
    simp only [evOp, oget_some] at h
    obtain ⟨u, hu, e⟩ := h
    cases e
    exact ⟨rfl, fun ha => ⟨_, evo_sound hu ha, fun w => rfl⟩⟩
  case pick c x y =>
    simp only [evOp, oget_some] at h
    obtain ⟨u, hu, t, ht, r, hr, e⟩ := h
    cases e
    refine ⟨rfl, fun {μ a} ha => ?_⟩
    have hb := truth_sound hor ht (evo_sound hu ha)
    have hv : ∀ w, (execOp a.eval ⟨dst, .pick c x y, type, pos, after, guard⟩).run P w = .ok (.value (if t then a.eval x else a.eval y)) w := fun w => by
      show (do pure (Next.value (if ← asBool (a.eval c) then a.eval x else a.eval y)) : Sem Next).run P w = _
      rw [hb]; rfl
    refine ⟨_, ?_, hv⟩
    cases t
    · exact evo_sound hr ha
    · exact evo_sound hr ha
  case build t ps =>
    simp only [evOp, oget_some] at h
    obtain ⟨z, hz, h⟩ := h
    split at h
    · rename_i es hes
      simp only [oget_some] at h
      obtain ⟨l, hl, e⟩ := h
      cases e
      refine ⟨rfl, fun {μ a} ha => ?_⟩
      unfold arrElt at hes
      split at hes
      · rename_i n e hu
        cases hi : P.info? e with
        | none => rw [hi] at hes; cases hes
        | some i =>
          rw [hi] at hes
          cases hes
          obtain ⟨i0, v0, hi0, hv0, hsc⟩ := typeZero_eq hz
          obtain ⟨arr', k1, k2⟩ := fillA_sound (arr := v0.cells) ps.toList hl (by simpa using ofScalars_VRs (ρ := ρ) (μ := μ) hsc) ha
          refine ⟨.agg arr', by have := VR.agg (ρ := ρ) (μ := μ) _ _ k2; simpa using this, fun w => ?_⟩
          refine exec_value (s := Instr.build t (ps.map fun (i, x) => (i, a.eval x))) rfl ?_
          have e : (ps.map fun x => (x.1, a.eval x.2)).toList = ps.toList.map fun p => (p.1, a.eval p.2) := by simp
          simp only [Instr.build, Sem.run_bind, run_zeroValue' hi0 hv0, Result.andThen_ok, run_underlying hu, sizeOf, typeInfo, run_program, hi, Sem.run_pure, e, k1]
      · cases hes
    · simp only [oget_some] at h
      obtain ⟨pl, hpl, l, hl, e⟩ := h
      cases e
      refine ⟨rfl, fun {μ a} ha => ?_⟩
      obtain ⟨x, hx, hw⟩ := build_sound hz hpl hl ha
      exact ⟨x, hx, fun w => exec_value (s := Instr.build t (ps.map fun (i, x) => (i, a.eval x))) rfl (hw w)⟩
  case nilCheck x =>
    simp only [evOp, oget_some] at h
    obtain ⟨u, hu, h⟩ := h
    split at h
    · cases h
      refine ⟨rfl, fun {μ a} ha => ?_⟩
      have g := evo_sound hu ha
      generalize ex : a.eval x = X at g
      cases g with
      | ptr _ _ m hm => exact ⟨_, .ptr _ _ m hm, fun w => by simp only [execOp, ex]; rfl⟩
    · cases h
      refine ⟨rfl, fun {μ a} ha => ?_⟩
      have g := evo_sound hu ha
      generalize ex : a.eval x = X at g
      cases g with
      | fn _ _ vs hs => exact ⟨_, .fn _ _ vs hs, fun w => by simp only [execOp, ex]; rfl⟩
    · cases h
  case binOp op T x y u =>
    simp only [evOp, oget_some] at h
    obtain ⟨va, hva, vb, hvb, r, hr, e⟩ := h
    cases e
    exact ⟨rfl, fun ha => abin_sound hva hvb hr ha⟩
  case unOp op T x =>
    simp only [evOp] at h
    rw [oget_some] at h
    obtain ⟨u, hu, h⟩ := h
    split at h
    · cases h
      refine ⟨rfl, fun {μ a} ha => ?_⟩
      rename_i b
      have g := evo_sound hu ha
      generalize ex : a.eval x = X at g
      cases g
      refine ⟨_, .bool _, fun w => exec_value (s := Op.unary .not (a.eval x)) rfl ?_⟩
      rw [ex]; cases b <;> rfl
    · cases h
      refine ⟨rfl, fun {μ a} ha => ?_⟩
      rename_i c
      have g := evo_sound hu ha
      generalize ex : a.eval x = X at g
      cases g
      refine ⟨_, .symb _, fun w => exec_value (s := Op.unary .not (a.eval x)) rfl ?_⟩
      rw [ex]; rfl
    · exact gen rfl h
  case convert s d x =>
    simp only [isP] at hp
    have hu1 : isU8 P s = true → isSliceT P s = true := fun h => by
      unfold isU8 at h
      split at h
      · rename_i e he; unfold isSliceT; rw [he]
      · cases h
    have hu2 : isU8 P d = true → isSliceT P d = true := fun h => by
      unfold isU8 at h
      split at h
      · rename_i e he; unfold isSliceT; rw [he]
      · cases h
    simp only [evOp] at h
    rw [oget_some] at h
    obtain ⟨u, hu, h⟩ := h
    split at h
    · split at h
      · rename_i k hk
        simp only [oget_some] at h
        obtain ⟨ds, hds, r, hr, e⟩ := h
        cases e
        rw [intV_eq] at hr
        cases hr
        refine ⟨rfl, fun {μ a} ha => ?_⟩
        have g := evo_sound hu ha
        generalize ex : a.eval x = X at g
        cases g
        refine ⟨_, .int _ _, fun w => exec_value (s := Go.convert s d (a.eval x)) rfl ?_⟩
        rw [ex]
        simp [Go.convert, run_underlying hds, run_underlying (isIntT_eq hk), Conv.intToInt]
      · exact gen rfl h
    · simp only [oget_some] at h
      obtain ⟨ds, hds, k, hk, e⟩ := h
      cases e
      refine ⟨rfl, fun {μ a} ha => ?_⟩
      have g := evo_sound hu ha
      generalize ex : a.eval x = X at g
      cases g
      refine ⟨_, .sym _ _, fun w => exec_value (s := Go.convert s d (a.eval x)) rfl ?_⟩
      rw [ex]
      simp [Go.convert, run_underlying hds, run_underlying (isIntT_eq hk), Conv.intToInt, SE.den]
    · exfalso
      cases e1 : isStringT P d <;> rw [e1] at h
      · simp only [bsel_false, bsel_none, oget_some] at h
        obtain ⟨e2, e3, _⟩ := h
        have e2 := Nat.eq_of_beq_eq_true e2
        subst e2
        rw [hu1 e3, e1] at hp
        cases hp
      · simp only [bsel_true, bsel_none, oget_some] at h
        obtain ⟨e3, _⟩ := h
        rw [hu1 e3, e1] at hp
        cases hp
    · exfalso
      simp only [bsel_none] at h
      obtain ⟨e1, e3, _⟩ := h
      rw [hu1 e3, e1] at hp
      cases hp
    · rename_i b
      cases e1 : isStringT P d
      · exfalso
        rw [e1] at h
        simp only [bsel_false, bsel_none, oget_some] at h
        obtain ⟨e2, e3, _⟩ := h
        have e4 : isSliceT P s = false := by unfold isSliceT; rw [isStringT_eq e2]
        rw [e4, hu2 e3, e2] at hp
        cases hp
      · rw [e1] at h
        simp only [bsel_true, bsel_none] at h
        obtain ⟨e2, h⟩ := h
        cases h
        refine ⟨rfl, fun {μ a} ha => ?_⟩
        have g := evo_sound hu ha
        generalize ex : a.eval x = X at g
        cases g
        refine ⟨_, .str _, fun w => exec_value (s := Go.convert s d (a.eval x)) rfl ?_⟩
        rw [ex]
        simp [Go.convert, run_underlying (isStringT_eq e2), run_underlying (isStringT_eq e1)]
    · exact gen rfl h
  case makeInterface T x =>
    simp only [evOp, oget_some, bsel_none'] at h
    obtain ⟨h1, u, hu, ds, hds, e⟩ := h
    cases e
    refine ⟨rfl, fun {μ a} ha => ⟨_, .iface _ _ _ (evo_sound hu ha), fun w => exec_value (s := Instr.makeInterface T (a.eval x)) rfl ?_⟩⟩
    simp only [Instr.makeInterface, Sem.run_bind, run_underlying hds, Result.andThen_ok]
    split
    · rename_i m
      unfold isIfaceT at h1
      rw [hds] at h1
      cases h1
    · rfl
  case makeFunc fn first captured =>
    cases fn <;> first | (simp only [evOp] at h; exact gen rfl h) | skip
    case func f =>
      simp only [evOp, oget_some, bsel_none] at h
      obtain ⟨h1, cs, hcs, e⟩ := h
      cases e
      refine ⟨rfl, fun {μ a} ha => ⟨_, .fn f _ _ (evos_sound hcs ha), fun w => ?_⟩⟩
      have hf : first = #[] := Array.isEmpty_iff.1 h1
      subst hf
      have e : (captured.toList.map a.eval).toArray = captured.map a.eval := by rw [← Array.toList_map]
      rw [e]
      exact exec_value (s := Instr.makeFunc (.func f) ((#[] : Array Operand).map a.eval) (captured.map a.eval)) rfl (by simp [Instr.makeFunc])
  case slice T x lo hi mx =>
    simp only [evOp, oget_some] at h
    obtain ⟨u, hu, r, hr, e⟩ := h
    cases e
    refine ⟨rfl, fun {μ a} ha => ?_⟩
    obtain ⟨z, hz, hw⟩ := aslice_sound hr (evo_sound hu ha) ha
    exact ⟨z, hz, fun w => exec_value (s := Instr.sliceAt T (a.eval x) (lo.map a.eval) (hi.map a.eval) (mx.map a.eval)) rfl (hw w)⟩
  case fieldAddr s x f =>
    simp only [evOp, oget_some] at h
    obtain ⟨u, hu, k, hk, h⟩ := h
    split at h
    · rename_i b i
      rw [forceN_eq] at h
      cases h
      refine ⟨rfl, fun {μ a} ha => ?_⟩
      have g := evo_sound hu ha
      generalize ex : a.eval x = X at g
      cases g with
      | ptr _ _ m hm =>
        obtain ⟨fs, fd, i', hfs, hfd, hi, hne, rfl⟩ := fieldOff_eq hk
        refine ⟨_, .ptr b (i + fd.offset) m hm, fun w => exec_value (s := Instr.fieldAt s (a.eval x) f) rfl ?_⟩
        rw [ex]
        simp [Instr.fieldAt, run_underlying hfs, hfd, Instr.sureAddr, fieldPlace, sizeOf, typeInfo, hi, hne, add_lit, Nat.add_assoc]
    · cases h
  case field s x f =>
    simp only [evOp] at h
    rw [oget_some] at h
    obtain ⟨u, hu, h⟩ := h
    rw [oget_some] at h
    obtain ⟨p, hp', h⟩ := h
    obtain ⟨fs, fd, hfs, hfd, hoff, hz⟩ := fieldAt_eq hp'
    split at h
    · rename_i cs
      have key : ∀ {μ : Mu} {a : Act}, AR ρ μ F E a → ∃ vs, a.eval x = .agg vs ∧ VRs ρ μ cs vs.toList := fun {μ a} ha => by
        have g := evo_sound hu ha
        generalize ex : a.eval x = X at g
        cases g with
        | agg _ vs hs => exact ⟨_, rfl, by simpa using hs⟩
      have run : ∀ {a : Act} {vs : Array Value} {z : Value}, a.eval x = .agg vs → (∀ w, (part fd.type vs p.1).run P w = .ok z w) → ∀ w, (execOp a.eval ⟨dst, .field s x f, type, pos, after, guard⟩).run P w = .ok (.value z) w := fun {a vs z} e1 e2 w => by
        refine exec_value (s := Instr.field s (a.eval x) f) rfl ?_
        rw [e1]
        simp [Instr.field, run_underlying hfs, hfd, asAgg, hoff, e2]
      split at h
      · rename_i n hn
        simp only [bsel_none] at h
        obtain ⟨h1, h⟩ := h
        cases h
        have h1 := Nat.le_of_ble_eq_true h1
        refine ⟨rfl, fun {μ a} ha => ?_⟩
        obtain ⟨vs, e1, hs⟩ := key ha
        have hr := (hs.drop p.1).take n
        refine ⟨_, .agg _ _ hr, run e1 fun w => ?_⟩
        rcases aggSize_eq hz with ⟨n', i, e2, hi, hsz, hag⟩ | ⟨e2, _⟩
        · rw [hn] at e2
          cases e2
          simp only [part, Sem.run_bind, hag, Result.andThen_ok, sizeOf, typeInfo, run_program, hi, Sem.run_pure, if_true, hsz]
          congr 2
          apply Array.ext'
          simp only [Array.toList_extract, List.extract_eq_take_drop]
          congr 1
          omega
        · rw [hn] at e2; cases e2
      · rename_i hn
        simp only [oget_some] at h
        obtain ⟨r, hr, e⟩ := h
        cases e
        refine ⟨rfl, fun {μ a} ha => ?_⟩
        obtain ⟨vs, e1, hs⟩ := key ha
        obtain ⟨z, hz', hv⟩ := hs.get hr
        refine ⟨z, hv, run e1 fun w => ?_⟩
        rcases aggSize_eq hz with ⟨n', i, e2, hi, hsz, hag⟩ | ⟨_, hag⟩
        · rw [hn] at e2; cases e2
        · have : vs[p.1]? = some z := by simpa using hz'
          simp [part, hag, this]
    · cases h
  case indexAddr T x ix =>
    simp only [evOp, oget_some] at h
    obtain ⟨u, hu, j, hj, es, hes, h⟩ := h
    split at h
    · rename_i b o len cap opn k i
      simp only [bsel_none, forceN_eq] at h
      obtain ⟨h1, h⟩ := h
      cases h
      have h1 := (blt_eq _ _).1 h1
      refine ⟨rfl, fun {μ a} ha => ?_⟩
      have g := evo_sound hu ha
      have gj := evo_sound hj ha
      generalize ex : a.eval x = X at g
      generalize ej : a.eval ix = J at gj
      cases gj
      obtain ⟨e, i0, hT, hi0, hsz⟩ := eltSize_eq hes
      have key : ∀ (m : Loc) (c : Nat), μ b = some m → X = .slice (some ⟨m.blk, m.off + o, none⟩) len c → ∃ z, VR ρ μ (.ptr (some (b, o + i * es))) z ∧ ∀ w, (execOp a.eval ⟨dst, .indexAddr T x ix, type, pos, after, guard⟩).run P w = .ok (.value z) w := fun m c hm e => by
        refine ⟨_, .ptr b (o + i * es) m hm, fun w => exec_value (s := Instr.indexAt T (a.eval x) (a.eval ix)) rfl ?_⟩
        rw [ex, ej, e]
        have h2 : (0 : Int) ≤ Int.ofNat i ∧ Int.ofNat i < (len : Int) := ⟨by simp, by simpa using h1⟩
        simp only [Instr.indexAt, asIntOf, Sem.run_bind, Sem.run_pure, Result.andThen_ok, run_underlying hT]
        rw [if_pos h2]
        simp [sizeOf, typeInfo, hi0, hsz, add_lit, Nat.add_assoc]
      cases g with
      | slice _ _ _ _ m hm _ => exact key m cap hm rfl
      | oslice _ _ _ _ _ cap' m hm _ _ _ => exact key m cap' hm rfl
    · cases h
  case index T x i => exact gen rfl h
  case extract x i =>
    simp only [evOp] at h
    rw [oget_some] at h
    obtain ⟨u, hu, h⟩ := h
    split at h
    · rename_i vs
      rw [oget_some] at h
      obtain ⟨r, hr, e⟩ := h
      cases e
      refine ⟨rfl, fun {μ a} ha => ?_⟩
      have g := evo_sound hu ha
      generalize ex : a.eval x = X at g
      cases g with
      | tuple _ xs hs =>
        obtain ⟨z, hz, hv⟩ := hs.get hr
        refine ⟨z, hv, fun w => exec_value (s := Instr.extract (a.eval x) i) rfl ?_⟩
        rw [ex]
        simp [Instr.extract, hz]
    · cases h
  case call c =>
    have hx : ∀ {a : Act} {w : World} {b : Builtin} {z : Value}, c.callee = .builtin b → (builtin b c.argTypes type (c.args.map fun | .const _ => true | _ => false) (c.args.map a.eval)).run P w = .ok (.value z) w →
        (execOp a.eval ⟨dst, .call c, type, pos, after, guard⟩).run P w = .ok (.value z) w := fun {a w b z} hc e => by
      show (do let d ← resolve a.eval c type; invoke d.target d.args : Sem Next).run P w = _
      rw [resolve_builtin a.eval c b type hc w]; exact e
    simp only [evOp, callAny] at h
    cases hc : c.callee with
    | value f => simp [isP, hc] at hp
    | invoke r m => simp [isP, hc] at hp
    | builtin b =>
      rw [hc] at h
      cases b <;> first | (simp [isP, hc] at hp; done) | skip
      case len =>
        simp only [oget_some] at h
        obtain ⟨T, hT, h⟩ := h
        split at h
        · rename_i x hargs
          rw [oget_some] at h
          obtain ⟨u, hu, h⟩ := h
          have ha0 : ∀ g : Operand → Value, (c.args.map g)[0]? = some (g x) := fun g => by
            have : c.args.toList[0]? = some x := by rw [hargs]; rfl
            have h2 : c.args[0]? = some x := by simpa using this
            simp [h2]
          have key : ∀ {a : Act} {n : Nat} {z : Value}, a.eval x = z → ((∃ e p q, P.underlying T = some (.slice e) ∧ z = .slice p n q) ∨ (∃ s : ByteArray, P.underlying T = some .string ∧ z = .string s ∧ s.size = n)) →
              ∀ w, (execOp a.eval ⟨dst, .call c, type, pos, after, guard⟩).run P w = .ok (.value (.int .i64 n)) w := fun {a n z} ez hz w => by
            refine hx hc ?_
            rcases hz with ⟨e, p, q, h1, rfl⟩ | ⟨s, h1, rfl, rfl⟩ <;> simp [builtin, Builtin.len_, hT, ha0, ez, run_underlying h1, goInt]
          split at h
          · simp only [bsel_none] at h
            obtain ⟨h1, h⟩ := h
            cases h
            obtain ⟨e, h1⟩ := isSliceT_eq h1
            refine ⟨rfl, fun {μ a} ha => ⟨_, .int _ _, ?_⟩⟩
            have g := evo_sound hu ha
            generalize ex : a.eval x = X at g
            cases g <;> exact key ex (.inl ⟨e, _, _, h1, rfl⟩)
          · simp only [bsel_none] at h
            obtain ⟨h1, h⟩ := h
            cases h
            obtain ⟨e, h1⟩ := isSliceT_eq h1
            refine ⟨rfl, fun {μ a} ha => ⟨_, .int _ _, ?_⟩⟩
            have g := evo_sound hu ha
            generalize ex : a.eval x = X at g
            cases g
            exact key (n := 0) ex (.inl ⟨e, _, _, h1, rfl⟩)
          · simp only [bsel_none] at h
            obtain ⟨h1, h⟩ := h
            cases h
            refine ⟨rfl, fun {μ a} ha => ⟨_, .int _ _, ?_⟩⟩
            have g := evo_sound hu ha
            generalize ex : a.eval x = X at g
            cases g
            exact key ex (.inr ⟨_, isStringT_eq h1, rfl, rfl⟩)
          · cases h
        · cases h
      case cap =>
        simp only [oget_some] at h
        obtain ⟨T, hT, h⟩ := h
        split at h
        · rename_i x hargs
          rw [oget_some] at h
          obtain ⟨u, hu, h⟩ := h
          have ha0 : ∀ g : Operand → Value, (c.args.map g)[0]? = some (g x) := fun g => by
            have : c.args.toList[0]? = some x := by rw [hargs]; rfl
            have h2 : c.args[0]? = some x := by simpa using this
            simp [h2]
          split at h
          · simp only [bsel_none] at h
            obtain ⟨h1, h⟩ := h
            cases h
            obtain ⟨e, h1⟩ := isSliceT_eq h1
            refine ⟨rfl, fun {μ a} ha => ⟨_, .int _ _, fun w => hx hc ?_⟩⟩
            have g := evo_sound hu ha
            generalize ex : a.eval x = X at g
            cases g <;> simp [builtin, Builtin.cap_, hT, ha0, ex, run_underlying h1, goInt]
          · cases h
        · cases h
      case min =>
        simp only [oget_some] at h
        obtain ⟨r, hr, e⟩ := h
        cases e
        exact ⟨rfl, fun ha => generic_sound hr ha⟩
      case max =>
        simp only [oget_some] at h
        obtain ⟨r, hr, e⟩ := h
        cases e
        exact ⟨rfl, fun ha => generic_sound hr ha⟩
end
end Go.Abs
