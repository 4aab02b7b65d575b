/- The faster form: operations as they are laid out. -/
import Derived.Test.YtmppkccbjmeihaaGreatQe3
namespace Go.Abs
set_option autoImplicit true
set_option relaxedAutoImplicit true
set_option linter.unusedVariables false
set_option linter.unusedSimpArgs false
set_option linter.unusedSectionVars false

/-- What a laid out operation gives is what the operation gives. -/
def OpGood (P : Program) (q : QOp) (o : Oper) : Prop := ∀ (c : Cx) (n : Nat) (t : Tr AVal) (E : QE) (S : St) (v : AVal) (S' : St), c.P = P → exec q c n t E S = .ok v S' → evOp c.H P c.orc ⟨n, t⟩ E.list S o = some (v, S')

section
variable {P : Program}
theorem good_gen (o : Oper) : OpGood P (.gen o) o := fun c n t E S v S' hP h => by
  subst hP
  exact rvOf_ok (show rvOf (evOp c.H c.P c.orc ⟨n, t⟩ E.list S o) = _ from h)

theorem good_mv {o : Oper} {x : Operand} (e : o.op = .move x ∨ o.op = .assign x) : OpGood P (.mv (qo x)) o := fun c n t E S v S' hP h => by
  obtain ⟨a, ha, h⟩ := bindV (show @Option.rec AVal (fun _ => RV) .no (fun v => .ok v S) (evQ (qo x) t E) = _ from h)
  cases h
  rw [evQ_eq n] at ha
  rcases e with e | e <;> · simp only [evOp, e, oget_some]; exact ⟨v, ha, rfl⟩
theorem good_pick {o : Oper} {x a b : Operand} (e : o.op = .pick x a b) : OpGood P (.pick (qo x) (qo a) (qo b)) o := fun c n t E S v S' hP h => by
  obtain ⟨u, hu, h⟩ := bindV (show @Option.rec AVal (fun _ => RV) .no (fun v => @Option.rec Bool (fun _ => RV) .no (fun w => @Bool.rec (fun _ => RV)
    (@Option.rec AVal (fun _ => RV) .no (fun v => .ok v S) (evQ (qo b) t E)) (@Option.rec AVal (fun _ => RV) .no (fun v => .ok v S) (evQ (qo a) t E)) w) (truthQ c.orc v)) (evQ (qo x) t E) = _ from h)
  obtain ⟨w, hw, h⟩ := bindV h
  rw [evQ_eq n] at hu
  rw [truthQ_eq] at hw
  simp only [evOp, e, oget_some]
  cases w with
  | false =>
    obtain ⟨y, hy, h⟩ := bindV (show @Option.rec AVal (fun _ => RV) .no (fun v => .ok v S) (evQ (qo b) t E) = _ from h)
    cases h
    rw [evQ_eq n] at hy
    exact ⟨u, hu, false, hw, v, hy, rfl⟩
  | true =>
    obtain ⟨y, hy, h⟩ := bindV (show @Option.rec AVal (fun _ => RV) .no (fun v => .ok v S) (evQ (qo a) t E) = _ from h)
    cases h
    rw [evQ_eq n] at hy
    exact ⟨u, hu, true, hw, v, hy, rfl⟩
theorem good_ld0 {o : Oper} {T : TypeId} {a : Operand} (e : o.op = .load T a) (hz : aggSize P T = some none) : OpGood P (.ld0 (qo a)) o := fun c n t E S v S' hP h => by
  obtain ⟨u, hu, h⟩ := bindV (show @Option.rec AVal (fun _ => RV) .no (fun a => ldP a S) (evQ (qo a) t E) = _ from h)
  rw [evQ_eq n] at hu
  obtain ⟨b, i, rfl, h1, rfl⟩ := ldP_ok h
  simp only [evOp, e, oget_some]
  refine ⟨_, hu, none, hz, ?_⟩
  simp only [oget_some]
  exact ⟨v, h1, rfl⟩
theorem good_st1 {o : Oper} {T : TypeId} {a x : Operand} (e : o.op = .store T a x) (hz : cellsOf? P T = some 1) : OpGood P (.st1 (qo a) (qo x)) o := fun c n t E S v S' hP h => by
  obtain ⟨u, hu, h⟩ := bindV (show @Option.rec AVal (fun _ => RV) .no (fun a => @Option.rec AVal (fun _ => RV) .no (fun v => @Bool.rec (fun _ => RV) .no (st1P a v S) (isCellQ v)) (evQ (qo x) t E)) (evQ (qo a) t E) = _ from h)
  obtain ⟨w, hw, h⟩ := bindV h
  obtain ⟨hc, h⟩ := selV h
  rw [evQ_eq n] at hu hw
  rw [isCellQ_eq] at hc
  obtain ⟨b, i, rfl, rfl, h1⟩ := st1P_ok h
  simp only [evOp, e, oget_some]
  have hcells : w.cells = [w] := by cases w <;> first | rfl | (cases hc)
  refine ⟨_, hu, w, hw, 1, hz, ?_⟩
  simp only [hcells, List.length_singleton, bsel_none, oget_some]
  exact ⟨rfl, by simp only [allCells, hc, bsel_true], S', h1, rfl⟩
theorem good_fa {o : Oper} {s : TypeId} {x : Operand} {f k : Nat} (e : o.op = .fieldAddr s x f) (hz : fieldOff P s f = some k) : OpGood P (.fa (qo x) k) o := fun c n t E S v S' hP h => by
  obtain ⟨u, hu, h⟩ := bindV (show @Option.rec AVal (fun _ => RV) .no (fun a => faP a k S) (evQ (qo x) t E) = _ from h)
  rw [evQ_eq n] at hu
  obtain ⟨b, i, rfl, rfl, rfl⟩ := faP_ok h
  simp only [evOp, e, oget_some]
  refine ⟨_, hu, k, hz, ?_⟩
  show forceN (i + k) _ = _
  rw [forceN_eq]
theorem good_ia {o : Oper} {T : TypeId} {x i : Operand} {es : Nat} (e : o.op = .indexAddr T x i) (hz : eltSize P T = some es) : OpGood P (.ia (qo x) (qo i) es) o := fun c n t E S v S' hP h => by
  obtain ⟨u, hu, h⟩ := bindV (show @Option.rec AVal (fun _ => RV) .no (fun a => @Option.rec AVal (fun _ => RV) .no (fun i => iaP a i es S) (evQ (qo i) t E)) (evQ (qo x) t E) = _ from h)
  obtain ⟨w, hw, h⟩ := bindV h
  rw [evQ_eq n] at hu hw
  obtain ⟨b, oo, len, cap, opn, k, j, rfl, rfl, h1, rfl, rfl⟩ := iaP_ok h
  simp only [evOp, e, oget_some]
  refine ⟨_, hu, _, hw, es, hz, ?_⟩
  simp only [h1, bsel_true, forceN_eq]
theorem good_bin {o : Oper} {op : BinOp} {T T' : TypeId} {x y : Operand} (e : o.op = .binOp op T x y T') : OpGood P (.bin o op T (qo x) (qo y)) o := fun c n t E S v S' hP h => by
  subst hP
  obtain ⟨u, hu, h⟩ := bindV (show @Option.rec AVal (fun _ => RV) .no (fun a => @Option.rec AVal (fun _ => RV) .no (fun b => binP a b op S (slowBin c n t E S o op T a b)) (evQ (qo y) t E)) (evQ (qo x) t E) = _ from h)
  obtain ⟨w, hw, h⟩ := bindV h
  rw [evQ_eq n] at hu hw
  obtain ⟨h1, rfl⟩ := binP_ok h
  simp only [evOp, e, oget_some]
  exact ⟨_, hu, _, hw, v, h1, rfl⟩
theorem good_binG {o : Oper} {op : BinOp} {T T' : TypeId} {x y : Operand} (e : o.op = .binOp op T x y T') : OpGood P (.binG o op T (qo x) (qo y)) o := fun c n t E S v S' hP h => by
  subst hP
  obtain ⟨u, hu, h⟩ := bindV (show @Option.rec AVal (fun _ => RV) .no (fun a => @Option.rec AVal (fun _ => RV) .no (fun b => slowBin c n t E S o op T a b) (evQ (qo y) t E)) (evQ (qo x) t E) = _ from h)
  obtain ⟨w, hw, h⟩ := bindV h
  rw [evQ_eq n] at hu hw
  obtain ⟨h1, rfl⟩ := rvV_ok h
  simp only [evOp, e, oget_some]
  exact ⟨_, hu, _, hw, v, h1, rfl⟩
theorem good_ext {o : Oper} {x : Operand} {i : Nat} (e : o.op = .extract x i) : OpGood P (.ext (qo x) i) o := fun c n t E S v S' hP h => by
  obtain ⟨u, hu, h⟩ := bindV (show @Option.rec AVal (fun _ => RV) .no (fun a => extP a i S) (evQ (qo x) t E) = _ from h)
  rw [evQ_eq n] at hu
  obtain ⟨vs, rfl, h1, rfl⟩ := extP_ok h
  simp only [evOp, e, oget_some]
  refine ⟨_, hu, ?_⟩
  simp only [oget_some]
  exact ⟨v, h1, rfl⟩
theorem good_fld0 {o : Oper} {s : TypeId} {x : Operand} {f i : Nat} (e : o.op = .field s x f) (hz : fieldAt? P s f = some (i, none)) : OpGood P (.fld0 (qo x) i) o := fun c n t E S v S' hP h => by
  obtain ⟨u, hu, h⟩ := bindV (show @Option.rec AVal (fun _ => RV) .no (fun a => fld0P a i S) (evQ (qo x) t E) = _ from h)
  rw [evQ_eq n] at hu
  obtain ⟨vs, rfl, h1, rfl⟩ := fld0P_ok h
  simp only [evOp, e, oget_some]
  refine ⟨_, hu, _, hz, ?_⟩
  simp only [oget_some]
  exact ⟨v, h1, rfl⟩
theorem good_fldn {o : Oper} {s : TypeId} {x : Operand} {f i m : Nat} (e : o.op = .field s x f) (hz : fieldAt? P s f = some (i, some m)) : OpGood P (.fldn (qo x) i m) o := fun c n t E S v S' hP h => by
  obtain ⟨u, hu, h⟩ := bindV (show @Option.rec AVal (fun _ => RV) .no (fun a => fldnP a i m S) (evQ (qo x) t E) = _ from h)
  rw [evQ_eq n] at hu
  obtain ⟨vs, rfl, h1, rfl, rfl⟩ := fldnP_ok h
  simp only [evOp, e, oget_some]
  refine ⟨_, hu, _, hz, ?_⟩
  simp only [h1, bsel_true]
theorem good_len {o : Oper} {cl : Call} {T : TypeId} {x : Operand} (e : o.op = .call cl) (e1 : cl.callee = .builtin .len) (e2 : cl.argTypes[0]? = some T) (e3 : cl.args.toList = [x]) : OpGood P (.len (qo x) (isSliceT P T) (isStringT P T)) o := fun c n t E S v S' hP h => by
  obtain ⟨u, hu, h⟩ := bindV (show @Option.rec AVal (fun _ => RV) .no (fun a => lenP a (isSliceT P T) (isStringT P T) S) (evQ (qo x) t E) = _ from h)
  rw [evQ_eq n] at hu
  have hh := lenP_ok h
  clear h
  obtain ⟨rfl, h9⟩ := hh
  simp only [evOp, e, callAny, e1, e2, e3, oget_some]
  rcases h9 with ⟨oo, m, cc, p, rfl, h1, rfl⟩ | ⟨rfl, h1, rfl⟩ | ⟨s, rfl, h1, rfl⟩
  · exact ⟨T, rfl, _, hu, by simp only [h1, bsel_true]⟩
  · exact ⟨T, rfl, _, hu, by simp only [h1, bsel_true]⟩
  · exact ⟨T, rfl, _, hu, by simp only [h1, bsel_true]⟩
theorem good_cvi {o : Oper} {s d U : TypeId} {x : Operand} {k : IntKind} {ul : _} (e : o.op = .convert s d x) (h0 : P.underlying s = some ul) (hk : isIntT P d = some k) : OpGood P (.cvi (qo x) k) o := fun c n t E S v S' hP h => by
  obtain ⟨u, hu, h⟩ := bindV (show @Option.rec AVal (fun _ => RV) .no (fun a => cviP a k S) (evQ (qo x) t E) = _ from h)
  rw [evQ_eq n] at hu
  have hh := cviP_ok h
  clear h
  obtain ⟨rfl, h9⟩ := hh
  simp only [evOp, e, oget_some]
  rcases h9 with ⟨k', m, rfl, h1⟩ | ⟨k', m, rfl, rfl⟩
  · refine ⟨_, hu, ?_⟩
    simp only [hk, oget_some]
    exact ⟨_, h0, v, h1, rfl⟩
  · refine ⟨_, hu, ?_⟩
    simp only [oget_some]
    exact ⟨_, h0, k, hk, rfl⟩
theorem good_nc {o : Oper} {x : Operand} (e : o.op = .nilCheck x) : OpGood P (.nc (qo x)) o := fun c n t E S v S' hP h => by
  obtain ⟨u, hu, h⟩ := bindV (show @Option.rec AVal (fun _ => RV) .no (fun a => ncP a S) (evQ (qo x) t E) = _ from h)
  rw [evQ_eq n] at hu
  have hh := ncP_ok h
  clear h
  obtain ⟨rfl, rfl, h9⟩ := hh
  simp only [evOp, e, oget_some]
  rcases h9 with ⟨p, rfl⟩ | ⟨f, cs, rfl⟩ <;> exact ⟨_, hu, rfl⟩
theorem good_not {o : Oper} {x : Operand} {T : TypeId} (e : o.op = .unOp .not T x) : OpGood P (.not (qo x)) o := fun c n t E S v S' hP h => by
  obtain ⟨u, hu, h⟩ := bindV (show @Option.rec AVal (fun _ => RV) .no (fun a => notP a S) (evQ (qo x) t E) = _ from h)
  rw [evQ_eq n] at hu
  have hh := notP_ok h
  clear h
  obtain ⟨rfl, h9⟩ := hh
  simp only [evOp, e, oget_some]
  rcases h9 with ⟨p, rfl, rfl⟩ | ⟨f, rfl, rfl⟩ <;> exact ⟨_, hu, rfl⟩
theorem good_al {o : Oper} {T : TypeId} {z : List AVal} (e : o.op = .alloc T) (hz : typeZero P T = some z) : OpGood P (.al z) o := fun c n t E S v S' hP h => by
  obtain ⟨b, rfl, h1⟩ := newQ_ok (show newQ (mkCells z) S = _ from h)
  simp only [evOp, e, oget_some]
  exact ⟨z, hz, _, h1, rfl⟩
theorem good_bx {o : Oper} {T : TypeId} {x : Operand} (e : o.op = .box T x) : OpGood P (.bx (qo x)) o := fun c n t E S v S' hP h => by
  obtain ⟨u, hu, h⟩ := bindV (show @Option.rec AVal (fun _ => RV) .no (fun a => newQ (mkCells a.cells) S) (evQ (qo x) t E) = _ from h)
  rw [evQ_eq n] at hu
  obtain ⟨b, rfl, h1⟩ := newQ_ok h
  simp only [evOp, e, oget_some]
  exact ⟨u, hu, _, h1, rfl⟩
theorem good_call {o : Oper} {cl : Call} {f : FuncId} {fn : Func} (e : o.op = .call cl) (e1 : cl.callee = .value (.func f)) (e2 : P.funcs[f]? = some fn) (e3 : fn.body.isSome = true) : OpGood P (.call f (cl.args.toList.map qo)) o := fun c n t E S v S' hP h => by
  obtain ⟨xs, hxs, h⟩ := (show ∃ xs, evsQ (cl.args.toList.map qo) t E = some xs ∧ c.C f xs S = .ok v S' by
    have h : @Option.rec (List AVal) (fun _ => RV) .no (fun xs => c.C f xs S) (evsQ (cl.args.toList.map qo) t E) = .ok v S' := h
    exact bindV h)
  rw [evsQ_eq n] at hxs
  simp only [evOp, e, callAny, e1, oget_some]
  refine ⟨.fn f [], rfl, ?_⟩
  simp only [oget_some, e2, e3, bsel_true]
  refine ⟨xs, hxs, ?_⟩
  rw [List.append_nil]
  exact RV.opt_some.2 h

theorem comp_good (o : Oper) : OpGood P (comp P o) o := by
  unfold comp
  cases e : o.op with
  | move x => exact good_mv (.inl e)
  | assign x => exact good_mv (.inr e)
  | pick x a b => exact good_pick e
  | load T a =>
    simp only
    split
    · rename_i h; exact good_ld0 e h
    · exact good_gen o
  | store T a x =>
    simp only
    split
    · rename_i n h
      rw [bsel_eq]
      split
      · rename_i h1
        have : n = 1 := Nat.eq_of_beq_eq_true h1
        subst this
        exact good_st1 e h
      · exact good_gen o
    · exact good_gen o
  | fieldAddr s x f =>
    simp only
    split
    · rename_i h; exact good_fa e h
    · exact good_gen o
  | indexAddr T x i =>
    simp only
    split
    · rename_i h; exact good_ia e h
    · exact good_gen o
  | binOp op T x y T' =>
    simp only
    split
    · exact good_bin e
    · exact good_binG e
  | nilCheck x => exact good_nc e
  | unOp op T x =>
    cases op <;> first | exact good_not e | exact good_gen o
  | alloc T =>
    simp only
    split
    · rename_i h; exact good_al e h
    · exact good_gen o
  | box T x => exact good_bx e
  | extract x i => exact good_ext e
  | field s x f =>
    simp only
    split
    · rename_i h; exact good_fld0 e h
    · rename_i h; exact good_fldn e h
    · exact good_gen o
  | convert s d x =>
    simp only
    split
    · rename_i h1 h2; exact good_cvi (U := 0) e h1 h2
    · exact good_gen o
  | call cl =>
    simp only
    cases e1 : cl.callee with
    | value f =>
      cases f with
      | func f =>
        simp only
        split
        · rename_i fn h
          rw [bsel_eq]
          split
          · rename_i h1; exact good_call e e1 h h1
          · exact good_gen o
        · exact good_gen o
      | _ => exact good_gen o
    | builtin b =>
      cases b with
      | len =>
        simp only
        split
        · rename_i T x h1 h2; exact good_len e e1 h1 h2
        · exact good_gen o
      | _ => exact good_gen o
    | _ => exact good_gen o
  | _ => exact good_gen o
end
end Go.Abs
