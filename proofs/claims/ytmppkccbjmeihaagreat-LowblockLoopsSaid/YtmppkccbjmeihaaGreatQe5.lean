/- The faster form: regions, code, calls: sound. -/
import Derived.Test.YtmppkccbjmeihaaGreatQe4
namespace Go.Abs
set_option autoImplicit true
set_option relaxedAutoImplicit true
set_option linter.unusedVariables false
set_option linter.unusedSimpArgs false
set_option linter.unusedSectionVars false

theorem bindE {α : Type} {o : Option α} {k : α → RE} {E : QE} {S : St} (h : @Option.rec α (fun _ => RE) .no k o = .ok E S) : ∃ x, o = some x ∧ k x = .ok E S := by
  cases o with
  | none => cases (show RE.no = _ from h)
  | some x => exact ⟨x, rfl, h⟩
theorem selE {b : Bool} {x : RE} {E : QE} {S : St} (h : @Bool.rec (fun _ => RE) .no x b = .ok E S) : b = true ∧ x = .ok E S := by
  cases b with
  | false => cases (show RE.no = _ from h)
  | true => exact ⟨rfl, h⟩
theorem bindR {r : RV} {k : AVal → St → RE} {E : QE} {S : St} (h : @RV.rec (fun _ => RE) .no k r = .ok E S) : ∃ v S1, r = .ok v S1 ∧ k v S1 = .ok E S := by
  cases r with
  | no => cases (show RE.no = _ from h)
  | ok v S1 => exact ⟨v, S1, rfl, h⟩
theorem wq_eq (want b : Bool) : wq want b = bsel want b (bsel b false true) := by cases want <;> cases b <;> rfl

theorem wantQ_eq (v : AVal) (want : Bool) (orc : SB → Option Bool) : wantQ v want orc = (match v with
    | .tuple [] => some false
    | v => oget (truth orc v) fun b => some (bsel want b (bsel b false true))) := by
  cases v with
  | bool b => show some (wq want b) = some _; rw [wq_eq]
  | symb c =>
    show @Option.rec Bool (fun _ => Option Bool) none (fun b => some (wq want b)) (orc c) = oget (orc c) _
    cases orc c with
    | none => rfl
    | some b => show some (wq want b) = some _; rw [wq_eq]
  | tuple vs => cases vs <;> rfl
  | _ => rfl

/-- A guard. -/
theorem guard_eq {ops : Array Oper} {o g : Oper} {j d n : Nat} {want : Bool} (t : Tr AVal) (E : QE) (orc : SB → Option Bool) (h1 : o.guard = some (j, want)) (h2 : ops[j]? = some g) (h3 : g.dst = some d) :
    wantedA orc ops ⟨n, t⟩ E.list o = @Option.rec AVal (fun _ => Option Bool) none (fun v => wantQ v want orc) (lkQ t d E) := by
  simp only [wantedA, h1, h2, h3, oget]
  rw [lkQ_eq n]
  cases lk ⟨n, t⟩ d E.list with
  | none => rfl
  | some v => exact (wantQ_eq v want orc).symm

section
variable {P : Program}

theorem exOps_sound (ops : Array Oper) (c : Cx) (n : Nat) (t : Tr AVal) (hP : c.P = P) : ∀ (l : List Oper) (E : QE) (S : St) (E' : QE) (S' : St),
    exOps (compOps P ops l) c n t E S = .ok E' S' → evOps c.H P c.orc ops ⟨n, t⟩ l E.list S = some (E'.list, S')
  | [], E, S, E', S', h => by
    cases (show RE.ok E S = _ from h)
    rfl
  | o :: l, E, S, E', S', h => by
    have ih := exOps_sound ops c n t hP l
    have run : ∀ d, o.dst = some d → @RV.rec (fun _ => RE) .no (fun v S => @Bool.rec (fun _ => RE) .no (exOps (compOps P ops l) c n t (.cons d v E) S) (Nat.ble (Nat.succ d) n)) (exec (comp P o) c n t E S) = .ok E' S' →
        (oget (evOp c.H P c.orc ⟨n, t⟩ E.list S o) fun q => match o.dst with
          | some d => bsel (Nat.blt d n) (evOps c.H P c.orc ops ⟨n, t⟩ l ((d, q.1) :: E.list) q.2) none
          | none => evOps c.H P c.orc ops ⟨n, t⟩ l E.list q.2) = some (E'.list, S') := fun d hd h => by
      obtain ⟨v, S1, h1, h⟩ := bindR h
      obtain ⟨hb, h⟩ := selE h
      rw [comp_good o c n t E S v S1 hP h1]
      simp only [oget, hd]
      rw [show Nat.blt d n = true from hb, bsel_true]
      exact ih _ _ _ _ h
    have runS : o.dst = none → @RV.rec (fun _ => RE) .no (fun v S => exOps (compOps P ops l) c n t E S) (exec (comp P o) c n t E S) = .ok E' S' →
        (oget (evOp c.H P c.orc ⟨n, t⟩ E.list S o) fun q => match o.dst with
          | some d => bsel (Nat.blt d n) (evOps c.H P c.orc ops ⟨n, t⟩ l ((d, q.1) :: E.list) q.2) none
          | none => evOps c.H P c.orc ops ⟨n, t⟩ l E.list q.2) = some (E'.list, S') := fun hd h => by
      obtain ⟨v, S1, h1, h⟩ := bindR h
      rw [comp_good o c n t E S v S1 hP h1]
      simp only [oget, hd]
      exact ih _ _ _ _ h
    simp only [compOps] at h
    simp only [evOps]
    cases hg : o.guard with
    | none =>
      rw [hg] at h
      have hw : wantedA c.orc ops ⟨n, t⟩ E.list o = some true := by simp only [wantedA, hg]
      rw [hw]
      cases hd : o.dst with
      | some d => rw [hd] at h; have := run d hd h; simp only [hd] at this; exact this
      | none => rw [hd] at h; have := runS hd h; simp only [hd] at this; exact this
    | some jw =>
      obtain ⟨j, want⟩ := jw
      rw [hg] at h
      simp only at h
      cases hj : ops[j]? with
      | none => rw [hj] at h; cases (show RE.no = _ from h)
      | some g =>
        rw [hj] at h
        simp only at h
        cases hgd : g.dst with
        | none => rw [hgd] at h; cases (show RE.no = _ from h)
        | some d1 =>
          rw [hgd] at h
          simp only at h
          rw [guard_eq (n := n) t E c.orc hg hj hgd]
          cases hd : o.dst with
          | some d =>
            rw [hd] at h
            obtain ⟨v, hv, h⟩ := bindE (show @Option.rec AVal (fun _ => RE) .no (fun v => @Option.rec Bool (fun _ => RE) .no (fun w => @Bool.rec (fun _ => RE)
              (@Bool.rec (fun _ => RE) .no (exOps (compOps P ops l) c n t (.cons d (.tuple []) E) S) (Nat.ble (Nat.succ d) n))
              (@RV.rec (fun _ => RE) .no (fun v S => @Bool.rec (fun _ => RE) .no (exOps (compOps P ops l) c n t (.cons d v E) S) (Nat.ble (Nat.succ d) n)) (exec (comp P o) c n t E S)) w) (wantQ v want c.orc)) (lkQ t d1 E) = _ from h)
            obtain ⟨w, hw, h⟩ := bindE h
            rw [hv]
            show oget (wantQ v want c.orc) _ = _
            rw [hw]
            cases w with
            | false =>
              obtain ⟨hb, h⟩ := selE (show @Bool.rec (fun _ => RE) .no (exOps (compOps P ops l) c n t (.cons d (.tuple []) E) S) (Nat.ble (Nat.succ d) n) = _ from h)
              show bsel (Nat.blt d n) _ none = _
              rw [show Nat.blt d n = true from hb, bsel_true]
              exact ih _ _ _ _ h
            | true => have := run d hd h; simp only [hd] at this; exact this
          | none =>
            rw [hd] at h
            obtain ⟨v, hv, h⟩ := bindE (show @Option.rec AVal (fun _ => RE) .no (fun v => @Option.rec Bool (fun _ => RE) .no (fun w => @Bool.rec (fun _ => RE)
              (exOps (compOps P ops l) c n t E S)
              (@RV.rec (fun _ => RE) .no (fun v S => exOps (compOps P ops l) c n t E S) (exec (comp P o) c n t E S)) w) (wantQ v want c.orc)) (lkQ t d1 E) = _ from h)
            obtain ⟨w, hw, h⟩ := bindE h
            rw [hv]
            show oget (wantQ v want c.orc) _ = _
            rw [hw]
            cases w with
            | false => exact ih _ _ _ _ h
            | true => have := runS hd h; simp only [hd] at this; exact this

theorem putQ_sound (keep n : Nat) (t : Tr AVal) : ∀ (E : QE) (t' : Tr AVal), putQ E keep n t = some t' → putAll keep ⟨n, t⟩ E.list = some ⟨n, t'⟩
  | .nil, t', h => by cases (show some t = _ from h); rfl
  | .cons d v E, t', h => by
    have h : @Option.rec (Tr AVal) (fun _ => Option (Tr AVal)) none (fun t => @Bool.rec (fun _ => Option (Tr AVal)) (some t)
      (@Bool.rec (fun _ => Option (Tr AVal)) none (@Tr.rec AVal (fun _ => Option (Tr AVal)) none (fun a b c _ _ => some (.node a b c)) (setA t d v)) (Nat.ble (Nat.succ d) n)) (Nat.beq (Nat.land (Nat.shiftRight keep d) 1) 1)) (putQ E keep n t) = some t' := h
    show oget (putAll keep ⟨n, t⟩ E.list) (fun F => bsel (Nat.beq (Nat.land (Nat.shiftRight keep d) 1) 1) (F.put d v) (some F)) = _
    cases hp : putQ E keep n t with
    | none => rw [hp] at h; cases (show (none : Option (Tr AVal)) = _ from h)
    | some t1 =>
      rw [hp] at h
      rw [putQ_sound keep n t E t1 hp]
      have h : @Bool.rec (fun _ => Option (Tr AVal)) (some t1)
        (@Bool.rec (fun _ => Option (Tr AVal)) none (@Tr.rec AVal (fun _ => Option (Tr AVal)) none (fun a b c _ _ => some (.node a b c)) (setA t1 d v)) (Nat.ble (Nat.succ d) n)) (Nat.beq (Nat.land (Nat.shiftRight keep d) 1) 1) = some t' := h
      show bsel (Nat.beq (Nat.land (Nat.shiftRight keep d) 1) 1) (Fr.put ⟨n, t1⟩ d v) (some ⟨n, t1⟩) = _
      cases hb : Nat.beq (Nat.land (Nat.shiftRight keep d) 1) 1 with
      | false => rw [hb] at h; cases (show some t1 = _ from h); rfl
      | true =>
        rw [hb] at h
        have h : @Bool.rec (fun _ => Option (Tr AVal)) none (@Tr.rec AVal (fun _ => Option (Tr AVal)) none (fun a b c _ _ => some (.node a b c)) (setA t1 d v)) (Nat.ble (Nat.succ d) n) = some t' := h
        rw [bsel_true]
        cases hn : Nat.ble (Nat.succ d) n with
        | false => rw [hn] at h; cases (show (none : Option (Tr AVal)) = _ from h)
        | true =>
          rw [hn] at h
          have h : @Tr.rec AVal (fun _ => Option (Tr AVal)) none (fun a b c _ _ => some (.node a b c)) (setA t1 d v) = some t' := h
          rw [setA_eq] at h
          obtain ⟨a, b, c, e⟩ := Tr.set_node t1 d v
          rw [e] at h
          cases (show some (Tr.node a b c) = _ from h)
          simp only [Fr.put]
          rw [show Nat.blt d n = true from hn, bsel_true, e]

theorem compG_sound {ops : Array Oper} {o : Oper} {g : Option (Nat × Bool)} (h : compG ops o = some g) (n : Nat) (t : Tr AVal) (E : QE) (orc : SB → Option Bool) : guardQ g orc t E = wantedA orc ops ⟨n, t⟩ E.list o := by
  unfold compG at h
  cases hg : o.guard with
  | none => rw [hg] at h; cases h; simp only [wantedA, hg]; rfl
  | some jw =>
    obtain ⟨j, want⟩ := jw
    rw [hg] at h
    simp only at h
    cases hj : ops[j]? with
    | none => rw [hj] at h; cases h
    | some g1 =>
      rw [hj] at h
      simp only at h
      cases hd : g1.dst with
      | none => rw [hd] at h; cases h
      | some d1 => rw [hd] at h; cases h; rw [guard_eq (n := n) t E orc hg hj hd]; rfl
theorem pushQ_sound {d : Option Nat} {n : Nat} {t : Tr AVal} {v : AVal} {E : QE} {k : QE → RE} {E' : QE} {S' : St} (h : pushQ d n v E k = .ok E' S') : ∃ E1 : QE, pushE ⟨n, t⟩ d v E.list = some E1.list ∧ k E1 = .ok E' S' := by
  cases d with
  | none => exact ⟨E, rfl, h⟩
  | some d =>
    obtain ⟨hb, h⟩ := selE (show @Bool.rec (fun _ => RE) .no (k (.cons d v E)) (Nat.ble (Nat.succ d) n) = _ from h)
    exact ⟨.cons d v E, by simp only [pushE]; rw [show Nat.blt d n = true from hb]; rfl, h⟩
theorem looks_mono {f g : St → Option (AVal × St)} (hfg : ∀ H r, f H = some r → g H = some r) (v : AVal) : ∀ (l : List St) (n : Nat), looks f v l n = some () → looks g v l n = some ()
  | _, 0, _ => by simp only [looks]
  | [], n + 1, h => by simp only [looks] at h; cases h
  | H :: l, n + 1, h => by
    simp only [looks, oget_some, bsel_none] at h ⊢
    obtain ⟨q, h1, h2, h3⟩ := h
    exact ⟨q, hfg _ _ h1, h2, looks_mono hfg v l n h3⟩

theorem exD_sound (ops : Array Oper) (c : Cx) (n : Nat) (t : Tr AVal) (hP : c.P = P) : ∀ (l : List Item) (E : QE) (S : St) (Hs : List St) (E' : QE) (S' : St),
    exD (compD P ops l) c n t E S Hs = .ok E' S' → ∃ Hs', evDraw c.H P c.orc ops ⟨n, t⟩ l (E.list, S, Hs) = some (E'.list, S', Hs')
  | [], E, S, Hs, E', S', h => by
    cases (show RE.ok E S = _ from h)
    exact ⟨Hs, rfl⟩
  | it :: l, E, S, Hs, E', S', h => by
    have ih := exD_sound ops c n t hP l
    simp only [compD] at h
    cases ho : ops[it.i]? with
    | none => rw [ho] at h; cases (show RE.no = _ from h)
    | some o =>
      rw [ho] at h
      simp only at h
      cases hg : compG ops o with
      | none => rw [hg] at h; cases (show RE.no = _ from h)
      | some g =>
        rw [hg] at h
        simp only at h
        have hgs := compG_sound hg n t E c.orc
        have fin : ∀ (cls : Nat) (w : Bool) (v : AVal) (S1 : St) (Hs1 : List St), it.cls = cls → guardQ g c.orc t E = some w →
            bsel w (evItem c.H P c.orc ⟨n, t⟩ it o E.list S Hs) (some (.tuple [], S)) = some (v, S1) → Hs1 = bsel (Nat.beq cls 3) (S1 :: Hs) Hs →
            pushQ o.dst n v E (fun E => exD (compD P ops l) c n t E S1 Hs1) = .ok E' S' → ∃ Hs', evDraw c.H P c.orc ops ⟨n, t⟩ (it :: l) (E.list, S, Hs) = some (E'.list, S', Hs') := fun cls w v S1 Hs1 hc hw hi hh h => by
          obtain ⟨E1, h1, h2⟩ := pushQ_sound (t := t) h
          obtain ⟨Hs', h3⟩ := ih _ _ _ _ _ h2
          refine ⟨Hs', ?_⟩
          simp only [evDraw, oget_some]
          refine ⟨(E1.list, S1, Hs1), ?_, h3⟩
          simp only [evD1, oget_some]
          refine ⟨o, ho, w, by rw [← hgs]; exact hw, (v, S1), hi, E1.list, h1, ?_⟩
          rw [hh, hc]
        cases hcls : it.cls with
        | zero =>
          rw [hcls] at h
          obtain ⟨w, hw, h⟩ := bindE (show @Option.rec Bool (fun _ => RE) .no (fun w => @Bool.rec (fun _ => RE) (pushQ o.dst n (.tuple []) E fun E => exD (compD P ops l) c n t E S Hs)
            (@RV.rec (fun _ => RE) .no (fun v _ => pushQ o.dst n v E fun E => exD (compD P ops l) c n t E S Hs) (exec (comp P o) c n t E S)) w) (guardQ g c.orc t E) = _ from h)
          cases w with
          | false => exact fin 0 false (.tuple []) S Hs hcls hw rfl rfl h
          | true =>
            obtain ⟨v, S1, h1, h⟩ := bindR h
            refine fin 0 true v S Hs hcls hw ?_ rfl h
            rw [bsel_true]
            simp only [evItem, hcls]
            show oget (evOp c.H P c.orc ⟨n, t⟩ E.list S o) (fun q => some (q.1, S)) = _
            rw [comp_good o c n t E S v S1 hP h1]; rfl
        | succ k1 =>
        cases k1 with
        | zero =>
          rw [hcls] at h
          obtain ⟨w, hw, h⟩ := bindE (show @Option.rec Bool (fun _ => RE) .no (fun w => @Bool.rec (fun _ => RE) (pushQ o.dst n (.tuple []) E fun E => exD (compD P ops l) c n t E S Hs)
            (@List.rec St (fun _ => RE) .no (fun H ll _ => @RV.rec (fun _ => RE) .no (fun v _ => @Option.rec Unit (fun _ => RE) .no (fun _ => pushQ o.dst n v E fun E => exD (compD P ops l) c n t E S Hs) (looks (fun H => (exec (comp P o) c n t E H).opt) v ll it.lo)) (exec (comp P o) c n t E H)) Hs) w) (guardQ g c.orc t E) = _ from h)
          cases w with
          | false => exact fin 1 false (.tuple []) S Hs hcls hw rfl rfl h
          | true =>
            cases Hs with
            | nil => cases (show RE.no = _ from h)
            | cons H ll =>
              obtain ⟨v, S1, h1, h⟩ := bindR (show @RV.rec (fun _ => RE) .no (fun v _ => @Option.rec Unit (fun _ => RE) .no (fun _ => pushQ o.dst n v E fun E => exD (compD P ops l) c n t E S (H :: ll)) (looks (fun H => (exec (comp P o) c n t E H).opt) v ll it.lo)) (exec (comp P o) c n t E H) = _ from h)
              obtain ⟨u, hu, h⟩ := bindE h
              refine fin 1 true v S (H :: ll) hcls hw ?_ rfl h
              rw [bsel_true]
              simp only [evItem, hcls]
              show oget (evOp c.H P c.orc ⟨n, t⟩ E.list H o) (fun q => oget (looks (fun H => evOp c.H P c.orc ⟨n, t⟩ E.list H o) q.1 ll it.lo) fun _ => some (q.1, S)) = _
              rw [comp_good o c n t E H v S1 hP h1]
              show oget (looks (fun H => evOp c.H P c.orc ⟨n, t⟩ E.list H o) v ll it.lo) (fun _ => some (v, S)) = _
              rw [looks_mono (g := fun H => evOp c.H P c.orc ⟨n, t⟩ E.list H o) (fun H r hr => by
                obtain ⟨v2, S2⟩ := r
                exact comp_good o c n t E H v2 S2 hP (RV.opt_some.1 hr)) v ll it.lo hu]; rfl
        | succ k2 =>
        cases k2 with
        | zero =>
          rw [hcls] at h
          obtain ⟨w, hw, h⟩ := bindE (show @Option.rec Bool (fun _ => RE) .no (fun w => @Bool.rec (fun _ => RE) (pushQ o.dst n (.tuple []) E fun E => exD (compD P ops l) c n t E S Hs)
            (@RV.rec (fun _ => RE) .no (fun v S => pushQ o.dst n v E fun E => exD (compD P ops l) c n t E S Hs) (exec (comp P o) c n t E S)) w) (guardQ g c.orc t E) = _ from h)
          cases w with
          | false => exact fin 2 false (.tuple []) S Hs hcls hw rfl rfl h
          | true =>
            obtain ⟨v, S1, h1, h⟩ := bindR h
            refine fin 2 true v S1 Hs hcls hw ?_ rfl h
            rw [bsel_true]
            simp only [evItem, hcls]
            show oget (evOp c.H P c.orc ⟨n, t⟩ E.list S o) (fun q => some q) = _
            rw [comp_good o c n t E S v S1 hP h1]; rfl
        | succ k3 =>
        cases k3 with
        | zero =>
          rw [hcls] at h
          obtain ⟨w, hw, h⟩ := bindE (show @Option.rec Bool (fun _ => RE) .no (fun w => @Bool.rec (fun _ => RE) (pushQ o.dst n (.tuple []) E fun E => exD (compD P ops l) c n t E S (S :: Hs))
            (@RV.rec (fun _ => RE) .no (fun v S => pushQ o.dst n v E fun E => exD (compD P ops l) c n t E S (S :: Hs)) (exec (comp P o) c n t E S)) w) (guardQ g c.orc t E) = _ from h)
          cases w with
          | false => exact fin 3 false (.tuple []) S (S :: Hs) hcls hw rfl rfl h
          | true =>
            obtain ⟨v, S1, h1, h⟩ := bindR h
            refine fin 3 true v S1 (S1 :: Hs) hcls hw ?_ rfl h
            rw [bsel_true]
            simp only [evItem, hcls]
            show oget (evOp c.H P c.orc ⟨n, t⟩ E.list S o) (fun q => some q) = _
            rw [comp_good o c n t E S v S1 hP h1]; rfl
        | succ k4 =>
        cases k4 with
        | zero =>
          rw [hcls] at h
          obtain ⟨w, hw, h⟩ := bindE (show @Option.rec Bool (fun _ => RE) .no (fun w => @Bool.rec (fun _ => RE) (pushQ o.dst n (.tuple []) E fun E => exD (compD P ops l) c n t E S Hs)
            (@RV.rec (fun _ => RE) .no (fun v S => pushQ o.dst n v E fun E => exD (compD P ops l) c n t E S Hs) (rvOf (markA c.P ⟨n, t⟩ E.list S Hs it.lo o))) w) (guardQ g c.orc t E) = _ from h)
          cases w with
          | false => exact fin 4 false (.tuple []) S Hs hcls hw rfl rfl h
          | true =>
            obtain ⟨v, S1, h1, h⟩ := bindR h
            refine fin 4 true v S1 Hs hcls hw ?_ rfl h
            rw [bsel_true]
            simp only [evItem, hcls]
            show markA P ⟨n, t⟩ E.list S Hs it.lo o = _
            rw [← hP]
            exact rvOf_ok h1
        | succ k5 => rw [hcls] at h; cases (show RE.no = _ from h)

/-! #### code -/
theorem exC_sound (I : Info) (c : Cx) (n fu : Nat) (hP : c.P = P) : ∀ (code : Code) (t : Tr AVal) (S : St) (z : AExit × Fr × St),
    (exC (compC P I code) c n I.keep fu t S).opt n = some z → ∃ m0, ∀ m, m0 ≤ m → evC c.H P c.orc I m code ⟨n, t⟩ S = some z := by
  intro code
  induction code with
  | skip => intro t S z h; cases (show some (AExit.normal, (⟨n, t⟩ : Fr), S) = _ from h); exact ⟨1, fun m hm => by obtain ⟨m, rfl⟩ : ∃ k, m = k + 1 := ⟨m - 1, by omega⟩; rfl⟩
  | exit id => intro t S z h; cases (show some (AExit.exit id, (⟨n, t⟩ : Fr), S) = _ from h); exact ⟨1, fun m hm => by obtain ⟨m, rfl⟩ : ∃ k, m = k + 1 := ⟨m - 1, by omega⟩; rfl⟩
  | ret => intro t S z h; cases (show some (AExit.ret, (⟨n, t⟩ : Fr), S) = _ from h); exact ⟨1, fun m hm => by obtain ⟨m, rfl⟩ : ∃ k, m = k + 1 := ⟨m - 1, by omega⟩; rfl⟩
  | region id ops draw =>
    intro t S z h
    refine ⟨1, fun m hm => ?_⟩
    obtain ⟨m, rfl⟩ : ∃ k, m = k + 1 := ⟨m - 1, by omega⟩
    simp only [evC]
    have put : ∀ (r : RE), (@RE.rec (fun _ => RC) .no (fun E S => @Option.rec (Tr AVal) (fun _ => RC) .no (fun t => .nor t S) (putQ E I.keep n t)) r).opt n = some z → ∃ E S1 t1, r = .ok E S1 ∧ putQ E I.keep n t = some t1 ∧ z = (.normal, ⟨n, t1⟩, S1) := fun r h => by
      cases r with
      | no => cases (show (none : Option (AExit × Fr × St)) = _ from h)
      | ok E S1 =>
        have h : (@Option.rec (Tr AVal) (fun _ => RC) .no (fun t => .nor t S1) (putQ E I.keep n t)).opt n = some z := h
        cases hp : putQ E I.keep n t with
        | none => rw [hp] at h; cases (show (none : Option (AExit × Fr × St)) = _ from h)
        | some t1 => rw [hp] at h; cases (show some (AExit.normal, (⟨n, t1⟩ : Fr), S1) = _ from h); exact ⟨E, S1, t1, rfl, hp, rfl⟩
    cases draw with
    | false =>
      obtain ⟨E, S1, t1, h1, h2, rfl⟩ := put (exOps (compOps P ops ops.toList) c n t .nil S) h
      rw [bsel_false]
      have := exOps_sound ops c n t hP ops.toList .nil S E S1 h1
      simp only [oget_some]
      exact ⟨(E.list, S1), this, ⟨n, t1⟩, putQ_sound _ _ _ _ _ h2, rfl⟩
    | true =>
      rw [bsel_true]
      simp only [compC, bsel_true] at h
      cases hl : findPlan id I.plans with
      | none => rw [hl] at h; cases (show (none : Option (AExit × Fr × St)) = _ from h)
      | some l =>
        rw [hl] at h
        obtain ⟨E, S1, t1, h1, h2, rfl⟩ := put (exD (compD P ops l) c n t .nil S [S]) h
        obtain ⟨Hs', h3⟩ := exD_sound ops c n t hP l .nil S [S] E S1 h1
        simp only [oget_some]
        exact ⟨l, rfl, (E.list, S1, Hs'), h3, ⟨n, t1⟩, putQ_sound _ _ _ _ _ h2, rfl⟩
  | seq a b iha ihb =>
    intro t S z h
    have h : (@RC.rec (fun _ => RC) .no (fun t S => exC (compC P I b) c n I.keep fu t S) (fun id t S => .ex id t S) (fun t S => .ret t S) (exC (compC P I a) c n I.keep fu t S)).opt n = some z := h
    cases hr : exC (compC P I a) c n I.keep fu t S with
    | no => rw [hr] at h; cases (show (none : Option (AExit × Fr × St)) = _ from h)
    | nor t1 S1 =>
      rw [hr] at h
      obtain ⟨m1, h1⟩ := iha t S (.normal, ⟨n, t1⟩, S1) (by rw [hr]; rfl)
      obtain ⟨m2, h2⟩ := ihb t1 S1 z h
      refine ⟨m1 + m2 + 1, fun m hm => ?_⟩
      obtain ⟨m, rfl⟩ : ∃ k, m = k + 1 := ⟨m - 1, by omega⟩
      simp only [evC, h1 m (by omega), oget]
      exact h2 m (by omega)
    | ex id t1 S1 =>
      rw [hr] at h
      cases (show some (AExit.exit id, (⟨n, t1⟩ : Fr), S1) = _ from h)
      obtain ⟨m1, h1⟩ := iha t S (.exit id, ⟨n, t1⟩, S1) (by rw [hr]; rfl)
      refine ⟨m1 + 1, fun m hm => ?_⟩
      obtain ⟨m, rfl⟩ : ∃ k, m = k + 1 := ⟨m - 1, by omega⟩
      simp only [evC, h1 m (by omega), oget]
    | ret t1 S1 =>
      rw [hr] at h
      cases (show some (AExit.ret, (⟨n, t1⟩ : Fr), S1) = _ from h)
      obtain ⟨m1, h1⟩ := iha t S (.ret, ⟨n, t1⟩, S1) (by rw [hr]; rfl)
      refine ⟨m1 + 1, fun m hm => ?_⟩
      obtain ⟨m, rfl⟩ : ∃ k, m = k + 1 := ⟨m - 1, by omega⟩
      simp only [evC, h1 m (by omega), oget]
  | cond x a b iha ihb =>
    intro t S z h
    have h : (@Option.rec AVal (fun _ => RC) .no (fun v => @Option.rec Bool (fun _ => RC) .no (fun w => @Bool.rec (fun _ => RC) (exC (compC P I b) c n I.keep fu t S) (exC (compC P I a) c n I.keep fu t S) w) (truthQ c.orc v)) (evQ (qo x) t .nil)).opt n = some z := h
    rw [evQ_eq n] at h
    cases hv : evo ⟨n, t⟩ QE.nil.list x with
    | none => rw [hv] at h; cases (show (none : Option (AExit × Fr × St)) = _ from h)
    | some v =>
      rw [hv] at h
      have h : (@Option.rec Bool (fun _ => RC) .no (fun w => @Bool.rec (fun _ => RC) (exC (compC P I b) c n I.keep fu t S) (exC (compC P I a) c n I.keep fu t S) w) (truthQ c.orc v)).opt n = some z := h
      rw [truthQ_eq] at h
      cases hw : truth c.orc v with
      | none => rw [hw] at h; cases (show (none : Option (AExit × Fr × St)) = _ from h)
      | some w =>
        rw [hw] at h
        have hv : evo ⟨n, t⟩ [] x = some v := hv
        cases w with
        | false =>
          obtain ⟨m1, h1⟩ := ihb t S z h
          refine ⟨m1 + 1, fun m hm => ?_⟩
          obtain ⟨m, rfl⟩ : ∃ k, m = k + 1 := ⟨m - 1, by omega⟩
          simp only [evC, hv, hw, oget, bsel_false]
          exact h1 m (by omega)
        | true =>
          obtain ⟨m1, h1⟩ := iha t S z h
          refine ⟨m1 + 1, fun m hm => ?_⟩
          obtain ⟨m, rfl⟩ : ∃ k, m = k + 1 := ⟨m - 1, by omega⟩
          simp only [evC, hv, hw, oget, bsel_true]
          exact h1 m (by omega)
  | block id b ih =>
    intro t S z h
    have h : (@RC.rec (fun _ => RC) .no (fun t S => .nor t S) (fun id' t S => @Bool.rec (fun _ => RC) (.ex id' t S) (.nor t S) (Nat.beq id' id)) (fun t S => .ret t S) (exC (compC P I b) c n I.keep fu t S)).opt n = some z := h
    cases hr : exC (compC P I b) c n I.keep fu t S with
    | no => rw [hr] at h; cases (show (none : Option (AExit × Fr × St)) = _ from h)
    | nor t1 S1 =>
      rw [hr] at h
      cases (show some (AExit.normal, (⟨n, t1⟩ : Fr), S1) = _ from h)
      obtain ⟨m1, h1⟩ := ih t S (.normal, ⟨n, t1⟩, S1) (by rw [hr]; rfl)
      refine ⟨m1 + 1, fun m hm => ?_⟩
      obtain ⟨m, rfl⟩ : ∃ k, m = k + 1 := ⟨m - 1, by omega⟩
      simp only [evC, h1 m (by omega), oget]
    | ex id' t1 S1 =>
      rw [hr] at h
      obtain ⟨m1, h1⟩ := ih t S (.exit id', ⟨n, t1⟩, S1) (by rw [hr]; rfl)
      refine ⟨m1 + 1, fun m hm => ?_⟩
      obtain ⟨m, rfl⟩ : ∃ k, m = k + 1 := ⟨m - 1, by omega⟩
      simp only [evC, h1 m (by omega), oget]
      have h : (@Bool.rec (fun _ => RC) (.ex id' t1 S1) (.nor t1 S1) (Nat.beq id' id)).opt n = some z := h
      cases hb : Nat.beq id' id with
      | false => rw [hb] at h; cases (show some (AExit.exit id', (⟨n, t1⟩ : Fr), S1) = _ from h); rfl
      | true => rw [hb] at h; cases (show some (AExit.normal, (⟨n, t1⟩ : Fr), S1) = _ from h); rfl
    | ret t1 S1 =>
      rw [hr] at h
      cases (show some (AExit.ret, (⟨n, t1⟩ : Fr), S1) = _ from h)
      obtain ⟨m1, h1⟩ := ih t S (.ret, ⟨n, t1⟩, S1) (by rw [hr]; rfl)
      refine ⟨m1 + 1, fun m hm => ?_⟩
      obtain ⟨m, rfl⟩ : ∃ k, m = k + 1 := ⟨m - 1, by omega⟩
      simp only [evC, h1 m (by omega), oget]
  | loop b ih =>
    intro t S z h
    have key : ∀ (k : Nat) (t : Tr AVal) (S : St) (z : AExit × Fr × St), (@Nat.rec (fun _ => Tr AVal → St → RC) (fun _ _ => .no) (fun _ rec t S => @RC.rec (fun _ => RC) .no (fun t S => rec t S) (fun id t S => .ex id t S) (fun t S => .ret t S) (exC (compC P I b) c n I.keep fu t S)) k t S).opt n = some z →
        ∃ m0, ∀ m, m0 ≤ m → evC c.H P c.orc I m (.loop b) ⟨n, t⟩ S = some z := by
      intro k
      induction k with
      | zero => intro t S z h; cases (show (none : Option (AExit × Fr × St)) = _ from h)
      | succ k ihk =>
        intro t S z h
        have h : (@RC.rec (fun _ => RC) .no (fun t S => @Nat.rec (fun _ => Tr AVal → St → RC) (fun _ _ => .no) (fun _ rec t S => @RC.rec (fun _ => RC) .no (fun t S => rec t S) (fun id t S => .ex id t S) (fun t S => .ret t S) (exC (compC P I b) c n I.keep fu t S)) k t S) (fun id t S => .ex id t S) (fun t S => .ret t S) (exC (compC P I b) c n I.keep fu t S)).opt n = some z := h
        cases hr : exC (compC P I b) c n I.keep fu t S with
        | no => rw [hr] at h; cases (show (none : Option (AExit × Fr × St)) = _ from h)
        | nor t1 S1 =>
          rw [hr] at h
          obtain ⟨m1, h1⟩ := ih t S (.normal, ⟨n, t1⟩, S1) (by rw [hr]; rfl)
          obtain ⟨m2, h2⟩ := ihk t1 S1 z h
          refine ⟨m1 + m2 + 1, fun m hm => ?_⟩
          obtain ⟨m, rfl⟩ : ∃ k, m = k + 1 := ⟨m - 1, by omega⟩
          simp only [evC, h1 m (by omega), oget]
          exact h2 m (by omega)
        | ex id t1 S1 =>
          rw [hr] at h
          cases (show some (AExit.exit id, (⟨n, t1⟩ : Fr), S1) = _ from h)
          obtain ⟨m1, h1⟩ := ih t S (.exit id, ⟨n, t1⟩, S1) (by rw [hr]; rfl)
          refine ⟨m1 + 1, fun m hm => ?_⟩
          obtain ⟨m, rfl⟩ : ∃ k, m = k + 1 := ⟨m - 1, by omega⟩
          simp only [evC, h1 m (by omega), oget]
        | ret t1 S1 =>
          rw [hr] at h
          cases (show some (AExit.ret, (⟨n, t1⟩ : Fr), S1) = _ from h)
          obtain ⟨m1, h1⟩ := ih t S (.ret, ⟨n, t1⟩, S1) (by rw [hr]; rfl)
          refine ⟨m1 + 1, fun m hm => ?_⟩
          obtain ⟨m, rfl⟩ : ∃ k, m = k + 1 := ⟨m - 1, by omega⟩
          simp only [evC, h1 m (by omega), oget]
    exact key fu t S z h
  | _ => intro t S z h; cases (show (none : Option (AExit × Fr × St)) = _ from h)

/-! #### calls -/
theorem resQ_eq (n : Nat) (t : Tr AVal) (S : St) : ∀ l : List ResultVar, resQ (l.map (compR P)) t S = resAll P ⟨n, t⟩ S l
  | [] => rfl
  | r :: l => by
    have e1 : resQ1 (compR P r) t S = resOne P ⟨n, t⟩ S r := by
      cases r with
      | tmp d => exact getA_eq t d
      | cell a T =>
        show _ = oget (t.get a) fun v => oget (aggSize P T) fun z => _
        simp only [compR]
        cases hz : aggSize P T with
        | none =>
          show none = _
          cases t.get a <;> rfl
        | some z =>
          cases z with
          | none =>
            show @Option.rec AVal (fun _ => Option AVal) none (fun v => ldV v S) (getA t a) = _
            rw [getA_eq]
            cases t.get a with
            | none => rfl
            | some v =>
              cases v with
              | ptr o => cases o with
                | none => rfl
                | some p => exact loadQ_eq S p.1 p.2
              | _ => rfl
          | some m =>
            show @Option.rec AVal (fun _ => Option AVal) none (fun v => ldnV v m S) (getA t a) = _
            rw [getA_eq]
            cases t.get a with
            | none => rfl
            | some v =>
              cases v with
              | ptr o => cases o with
                | none => rfl
                | some p => rfl
              | _ => rfl
    show @Option.rec AVal (fun _ => Option (List AVal)) none (fun v => @Option.rec (List AVal) (fun _ => Option (List AVal)) none (fun l => some (v :: l)) (resQ (l.map (compR P)) t S)) (resQ1 (compR P r) t S) = oget (resOne P ⟨n, t⟩ S r) fun v => oget (resAll P ⟨n, t⟩ S l) fun l => some (v :: l)
    rw [e1, resQ_eq n t S l]
    rfl
theorem oneQ_eq (l : List AVal) (S : St) : oneQ l S = .ok (oneOr l) S := by
  cases l with
  | nil => rfl
  | cons v l => cases l <;> rfl
theorem initQ_eq (keep n : Nat) : ∀ (l : List AVal) (i : Nat) (t : Tr AVal), initQ l keep i t = initFr keep n i l t
  | [], i, t => rfl
  | v :: l, i, t => by
    show initQ l keep (i + 1) (@Bool.rec (fun _ => Tr AVal) t (setA t i v) (Nat.beq (Nat.land (Nat.shiftRight keep i) 1) 1)) = initFr keep n (i + 1) l (bsel (Nat.beq (Nat.land (Nat.shiftRight keep i) 1) 1) (t.set i v) t)
    rw [initQ_eq keep n l, setA_eq]; rfl

variable {ρ : Nat → Int} {B : Handler} {orc : SB → Option Bool}
theorem callQ_sound (hmix : P.follows .mixedOrders = true) (hB : HandlerOK P ρ B) (hor : ∀ c b, orc c = some b → c.den ρ = b) {T : FuncId → Option QFun} (hT : ∀ f q, T f = some q → ∃ A, q = compF P A ∧ FunOK P f A) (fuel : Nat) :
    ∀ d, HandlerOK P ρ (fun f xs S => (callQ T B P orc fuel d f xs S).opt)
  | 0 => fun f xs S v S' h => hB f xs S v S' (rvOf_ok (RV.opt_some.1 h))
  | d + 1 => fun f xs S v S' h => by
    have ih := callQ_sound hmix hB hor hT fuel d
    have h := RV.opt_some.1 h
    have h : @Option.rec QFun (fun _ => RV) (rvOf (B f xs S)) (fun A => @QFun.rec (fun _ => RV) (fun nt keep res code =>
      @Bool.rec (fun _ => RV) .no
        (@Tr.rec AVal (fun _ => RV)
          (@RC.rec (fun _ => RV) .no (fun t S => @Option.rec (List AVal) (fun _ => RV) .no (fun l => oneQ l S) (resQ res t S)) (fun _ _ _ => .no) (fun t S => @Option.rec (List AVal) (fun _ => RV) .no (fun l => oneQ l S) (resQ res t S)) (exC code ⟨callQ T B P orc fuel d, P, orc⟩ nt keep fuel .leaf S))
          (fun a b c _ _ => @RC.rec (fun _ => RV) .no (fun t S => @Option.rec (List AVal) (fun _ => RV) .no (fun l => oneQ l S) (resQ res t S)) (fun _ _ _ => .no) (fun t S => @Option.rec (List AVal) (fun _ => RV) .no (fun l => oneQ l S) (resQ res t S)) (exC code ⟨callQ T B P orc fuel d, P, orc⟩ nt keep fuel (.node a b c) S))
          (initQ xs keep 0 .leaf))
        (Nat.ble xs.length nt)) .no A) (T f) = .ok v S' := h
    cases hq : T f with
    | none => rw [hq] at h; exact hB f xs S v S' (rvOf_ok h)
    | some q =>
      rw [hq] at h
      obtain ⟨A, rfl, hA⟩ := hT f q hq
      have h : @QFun.rec (fun _ => RV) (fun nt keep res code =>
        @Bool.rec (fun _ => RV) .no
        (@Tr.rec AVal (fun _ => RV)
          (@RC.rec (fun _ => RV) .no (fun t S => @Option.rec (List AVal) (fun _ => RV) .no (fun l => oneQ l S) (resQ res t S)) (fun _ _ _ => .no) (fun t S => @Option.rec (List AVal) (fun _ => RV) .no (fun l => oneQ l S) (resQ res t S)) (exC code ⟨callQ T B P orc fuel d, P, orc⟩ nt keep fuel .leaf S))
          (fun a b c _ _ => @RC.rec (fun _ => RV) .no (fun t S => @Option.rec (List AVal) (fun _ => RV) .no (fun l => oneQ l S) (resQ res t S)) (fun _ _ _ => .no) (fun t S => @Option.rec (List AVal) (fun _ => RV) .no (fun l => oneQ l S) (resQ res t S)) (exC code ⟨callQ T B P orc fuel d, P, orc⟩ nt keep fuel (.node a b c) S))
          (initQ xs keep 0 .leaf))
        (Nat.ble xs.length nt)) .no (compF P A) = .ok v S' := h
      cases hb : A.fn.body with
      | none => simp only [compF, hb] at h; cases (show RV.no = _ from h)
      | some body =>
        simp only [compF, hb] at h
        obtain ⟨hn, h⟩ := selV h
        have h : ∃ t, t = initQ xs A.info.keep 0 .leaf ∧ @RC.rec (fun _ => RV) .no (fun t S => @Option.rec (List AVal) (fun _ => RV) .no (fun l => oneQ l S) (resQ (A.fn.results.toList.map (compR P)) t S)) (fun _ _ _ => .no) (fun t S => @Option.rec (List AVal) (fun _ => RV) .no (fun l => oneQ l S) (resQ (A.fn.results.toList.map (compR P)) t S)) (exC (compC P A.info body) ⟨callQ T B P orc fuel d, P, orc⟩ A.fn.ntmps A.info.keep fuel t S) = .ok v S' := by
          cases ht : initQ xs A.info.keep 0 .leaf with
          | leaf => rw [ht] at h; exact ⟨_, rfl, h⟩
          | node a b c => rw [ht] at h; exact ⟨_, rfl, h⟩
        obtain ⟨t, rfl, h⟩ := h
        rw [initQ_eq _ A.fn.ntmps] at h
        have res : ∀ (t1 : Tr AVal) (S1 : St), @Option.rec (List AVal) (fun _ => RV) .no (fun l => oneQ l S1) (resQ (A.fn.results.toList.map (compR P)) t1 S1) = .ok v S' → (oget (resAll P ⟨A.fn.ntmps, t1⟩ S1 A.fn.results.toList) fun vs => some (oneOr vs, S1)) = some (v, S') := fun t1 S1 h => by
          rw [resQ_eq A.fn.ntmps] at h
          cases hl : resAll P ⟨A.fn.ntmps, t1⟩ S1 A.fn.results.toList with
          | none => rw [hl] at h; cases (show RV.no = _ from h)
          | some l => rw [hl] at h; have h : oneQ l S1 = _ := h; rw [oneQ_eq] at h; cases h; rfl
        have key : ∃ m, callN P orc (fun f xs S => (callQ T B P orc fuel d f xs S).opt) (fun g => bsel (Nat.beq g f) (some A) none) m 1 f xs S = some (v, S') := by
          have hTf : bsel (Nat.beq f f) (some A) none = some A := by rw [Nat.beq_refl]; rfl
          cases hr : exC (compC P A.info body) ⟨callQ T B P orc fuel d, P, orc⟩ A.fn.ntmps A.info.keep fuel (initFr A.info.keep A.fn.ntmps 0 xs .leaf) S with
          | no => rw [hr] at h; cases (show RV.no = _ from h)
          | ex id t1 S1 => rw [hr] at h; cases (show RV.no = _ from h)
          | nor t1 S1 =>
            rw [hr] at h
            obtain ⟨m0, h1⟩ := exC_sound (P := P) A.info ⟨callQ T B P orc fuel d, P, orc⟩ A.fn.ntmps fuel rfl body _ S (.normal, ⟨A.fn.ntmps, t1⟩, S1) (by rw [hr]; rfl)
            refine ⟨m0, ?_⟩
            have h1 := h1 m0 (Nat.le_refl _)
            simp only [callN, hTf]
            rw [hn, bsel_true, hb]
            simp only [oget]
            have h1 : evC (fun f xs S => (callQ T B P orc fuel d f xs S).opt) P orc A.info m0 body ⟨A.fn.ntmps, initFr A.info.keep A.fn.ntmps 0 xs .leaf⟩ S = _ := h1
            rw [h1]
            exact res t1 S1 h
          | ret t1 S1 =>
            rw [hr] at h
            obtain ⟨m0, h1⟩ := exC_sound (P := P) A.info ⟨callQ T B P orc fuel d, P, orc⟩ A.fn.ntmps fuel rfl body _ S (.ret, ⟨A.fn.ntmps, t1⟩, S1) (by rw [hr]; rfl)
            refine ⟨m0, ?_⟩
            have h1 := h1 m0 (Nat.le_refl _)
            simp only [callN, hTf]
            rw [hn, bsel_true, hb]
            simp only [oget]
            have h1 : evC (fun f xs S => (callQ T B P orc fuel d f xs S).opt) P orc A.info m0 body ⟨A.fn.ntmps, initFr A.info.keep A.fn.ntmps 0 xs .leaf⟩ S = _ := h1
            rw [h1]
            exact res t1 S1 h
        obtain ⟨m, hm⟩ := key
        refine callN_sound hmix ih hor (T := fun g => bsel (Nat.beq g f) (some A) none) (fun g A' hg => ?_) m 1 f xs S v S' hm
        rw [bsel_none] at hg
        obtain ⟨hg1, hg2⟩ := hg
        have := Nat.eq_of_beq_eq_true hg1
        subst this
        cases hg2
        exact hA
end
end Go.Abs
