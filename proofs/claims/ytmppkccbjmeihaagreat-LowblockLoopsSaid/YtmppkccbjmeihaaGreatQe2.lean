/- The faster form: what it gives is what the plain form gives. Memory, operands. -/
import Derived.Test.YtmppkccbjmeihaaGreatQe1
namespace Go.Abs
set_option autoImplicit true
set_option relaxedAutoImplicit true
set_option linter.unusedVariables false
set_option linter.unusedSimpArgs false
set_option linter.unusedSectionVars false

/-! #### tries -/
theorem Tr.setF_fuel {α : Type} (x : α) : ∀ (f n : Nat), n < f → ∀ (g : Nat), n < g → ∀ t : Tr α, setF f t n x = setF g t n x := by
  intro f
  induction f with
  | zero => intro n h; omega
  | succ f ih =>
    intro n hn g hg t
    obtain ⟨g, rfl⟩ : ∃ g', g = g' + 1 := ⟨g - 1, by omega⟩
    rcases part3 n with rfl | ⟨k, rfl⟩ | ⟨k, rfl⟩
    · cases t <;> rfl
    · cases t with
      | leaf => rw [setF_odd_leaf _ _ _ (by omega), setF_odd_leaf _ _ _ (by omega), ih k (by omega) g (by omega)]
      | node l v r => rw [setF_odd_node _ _ _ _ _ _ (by omega), setF_odd_node _ _ _ _ _ _ (by omega), ih k (by omega) g (by omega)]
    · cases t with
      | leaf => rw [setF_even_leaf _ _ _ (by omega), setF_even_leaf _ _ _ (by omega), ih k (by omega) g (by omega)]
      | node l v r => rw [setF_even_node _ _ _ _ _ _ (by omega), setF_even_node _ _ _ _ _ _ (by omega), ih k (by omega) g (by omega)]
theorem Tr.set_odd {α : Type} (l r : Tr α) (v : Option α) (x : α) (k : Nat) : (Tr.node l v r).set (2 * k + 1) x = .node (l.set k x) v r := by
  show setF _ _ _ _ = _
  rw [setF_odd_node _ _ _ _ _ _ (by omega)]
  rw [setF_fuel x (2 * k + 1) k (by omega) (k + 1) (by omega)]; rfl
theorem Tr.set_even {α : Type} (l r : Tr α) (v : Option α) (x : α) (k : Nat) : (Tr.node l v r).set (2 * k + 2) x = .node l v (r.set k x) := by
  show setF _ _ _ _ = _
  rw [setF_even_node _ _ _ _ _ _ (by omega)]
  rw [setF_fuel x (2 * k + 2) k (by omega) (k + 1) (by omega)]; rfl
theorem Tr.getF_fuel {α : Type} : ∀ (f n : Nat), n < f → ∀ (g : Nat), n < g → ∀ t : Tr α, getF f t n = getF g t n := by
  intro f
  induction f with
  | zero => intro n h; omega
  | succ f ih =>
    intro n hn g hg t
    obtain ⟨g, rfl⟩ : ∃ g', g = g' + 1 := ⟨g - 1, by omega⟩
    cases t with
    | leaf => rfl
    | node l v r =>
      rcases part3 n with rfl | ⟨k, rfl⟩ | ⟨k, rfl⟩
      · rfl
      · rw [getF_odd, getF_odd, ih k (by omega) g (by omega)]
      · rw [getF_even, getF_even, ih k (by omega) g (by omega)]
theorem Tr.get_odd {α : Type} (l r : Tr α) (v : Option α) (k : Nat) : (Tr.node l v r).get (2 * k + 1) = l.get k := by
  show getF _ _ _ = _
  rw [getF_odd, getF_fuel (2 * k + 1) k (by omega) (k + 1) (by omega)]; rfl
theorem Tr.get_even {α : Type} (l r : Tr α) (v : Option α) (k : Nat) : (Tr.node l v r).get (2 * k + 2) = r.get k := by
  show getF _ _ _ = _
  rw [getF_even, getF_fuel (2 * k + 2) k (by omega) (k + 1) (by omega)]; rfl
theorem beq0_even (k : Nat) : Nat.beq (2 * k + 2) 0 = false := rfl
theorem sub_even (k : Nat) : Nat.sub (Nat.div (2 * k + 2) 2) 1 = k := by show (2 * k + 2) / 2 - 1 = k; omega

theorem getA_node (l r : Tr AVal) (v : Option AVal) (n : Nat) : getA (.node l v r) n = bsel (Nat.beq n 0) v (bsel (Nat.beq (Nat.mod n 2) 1) (getA l (Nat.div n 2)) (getA r (Nat.sub (Nat.div n 2) 1))) := rfl
theorem getB_node (l r : Tr ABlk) (v : Option ABlk) (n : Nat) : getB (.node l v r) n = bsel (Nat.beq n 0) v (bsel (Nat.beq (Nat.mod n 2) 1) (getB l (Nat.div n 2)) (getB r (Nat.sub (Nat.div n 2) 1))) := rfl
theorem getA_eq : ∀ (t : Tr AVal) (n : Nat), getA t n = t.get n
  | .leaf, n => rfl
  | .node l v r, n => by
    rw [getA_node]
    rcases Tr.part3 n with rfl | ⟨k, rfl⟩ | ⟨k, rfl⟩
    · rfl
    · simp only [Tr.beq0_odd, bsel_false, Tr.mod_odd, Tr.div_odd]; rw [Tr.get_odd]; exact getA_eq l k
    · simp only [beq0_even, bsel_false, Tr.mod_even, sub_even, show Nat.beq 0 1 = false from rfl]; rw [Tr.get_even]; exact getA_eq r k
theorem getB_eq : ∀ (t : Tr ABlk) (n : Nat), getB t n = t.get n
  | .leaf, n => rfl
  | .node l v r, n => by
    rw [getB_node]
    rcases Tr.part3 n with rfl | ⟨k, rfl⟩ | ⟨k, rfl⟩
    · rfl
    · simp only [Tr.beq0_odd, bsel_false, Tr.mod_odd, Tr.div_odd]; rw [Tr.get_odd]; exact getB_eq l k
    · simp only [beq0_even, bsel_false, Tr.mod_even, sub_even, show Nat.beq 0 1 = false from rfl]; rw [Tr.get_even]; exact getB_eq r k
theorem setA_node (l r : Tr AVal) (v : Option AVal) (n : Nat) (x : AVal) : setA (.node l v r) n x = bsel (Nat.beq n 0) (.node l (some x) r) (bsel (Nat.beq (Nat.mod n 2) 1) (setAL (setA l (Nat.div n 2) x) v r) (setAR l v (setA r (Nat.sub (Nat.div n 2) 1) x))) := rfl
theorem setB_node (l r : Tr ABlk) (v : Option ABlk) (n : Nat) (x : ABlk) : setB (.node l v r) n x = bsel (Nat.beq n 0) (.node l (some x) r) (bsel (Nat.beq (Nat.mod n 2) 1) (setBL (setB l (Nat.div n 2) x) v r) (setBR l v (setB r (Nat.sub (Nat.div n 2) 1) x))) := rfl
theorem setA_eq : ∀ (t : Tr AVal) (n : Nat) (x : AVal), setA t n x = t.set n x
  | .leaf, n, x => rfl
  | .node l v r, n, x => by
    rw [setA_node]
    rcases Tr.part3 n with rfl | ⟨k, rfl⟩ | ⟨k, rfl⟩
    · rfl
    · simp only [Tr.beq0_odd, bsel_false, Tr.mod_odd, Tr.div_odd, show Nat.beq 1 1 = true from rfl, bsel_true]
      rw [Tr.set_odd, setA_eq l k x]
      obtain ⟨a, b, c, e⟩ := Tr.set_node l k x
      rw [e]; rfl
    · simp only [beq0_even, bsel_false, Tr.mod_even, sub_even, show Nat.beq 0 1 = false from rfl]
      rw [Tr.set_even, setA_eq r k x]
      obtain ⟨a, b, c, e⟩ := Tr.set_node r k x
      rw [e]; rfl
theorem setB_eq : ∀ (t : Tr ABlk) (n : Nat) (x : ABlk), setB t n x = t.set n x
  | .leaf, n, x => rfl
  | .node l v r, n, x => by
    rw [setB_node]
    rcases Tr.part3 n with rfl | ⟨k, rfl⟩ | ⟨k, rfl⟩
    · rfl
    · simp only [Tr.beq0_odd, bsel_false, Tr.mod_odd, Tr.div_odd, show Nat.beq 1 1 = true from rfl, bsel_true]
      rw [Tr.set_odd, setB_eq l k x]
      obtain ⟨a, b, c, e⟩ := Tr.set_node l k x
      rw [e]; rfl
    · simp only [beq0_even, bsel_false, Tr.mod_even, sub_even, show Nat.beq 0 1 = false from rfl]
      rw [Tr.set_even, setB_eq r k x]
      obtain ⟨a, b, c, e⟩ := Tr.set_node r k x
      rw [e]; rfl

/-! #### operands -/
theorem lkQ_eq (n : Nat) (t : Tr AVal) (d : Nat) : ∀ E : QE, lkQ t d E = lk ⟨n, t⟩ d E.list
  | .nil => getA_eq t d
  | .cons d' v E => by
    show bsel (Nat.beq d' d) (some v) (lkQ t d E) = bsel (Nat.beq d' d) (some v) (lk ⟨n, t⟩ d E.list)
    rw [lkQ_eq n t d E]
theorem evQ_eq (n : Nat) (x : Operand) (t : Tr AVal) (E : QE) : evQ (qo x) t E = evo ⟨n, t⟩ E.list x := by
  cases x with
  | tmp d => exact lkQ_eq n t d E
  | const v =>
    show evQ (match ofV v with | some v => .v v | none => .bad) t E = ofV v
    cases ofV v <;> rfl
  | global g => rfl
  | func f => rfl
theorem evsQ_eq (n : Nat) (t : Tr AVal) (E : QE) : ∀ l : List Operand, evsQ (l.map qo) t E = evos ⟨n, t⟩ E.list l
  | [] => rfl
  | x :: l => by
    show oget (evQ (qo x) t E) (fun v => oget (evsQ (l.map qo) t E) fun l => some (v :: l)) = oget (evo ⟨n, t⟩ E.list x) (fun v => oget (evos ⟨n, t⟩ E.list l) fun l => some (v :: l))
    rw [evQ_eq n, evsQ_eq n t E l]

/-! #### results -/
theorem rvV_ok {o : Option AVal} {S S' : St} {v : AVal} (h : rvV o S = .ok v S') : o = some v ∧ S' = S := by
  cases o with
  | none => cases (show RV.no = _ from h)
  | some u => cases (show RV.ok u S = _ from h); exact ⟨rfl, rfl⟩
theorem rvOf_ok {o : Option (AVal × St)} {S' : St} {v : AVal} (h : rvOf o = .ok v S') : o = some (v, S') := by
  cases o with
  | none => cases (show RV.no = _ from h)
  | some q => obtain ⟨u, S⟩ := q; cases (show RV.ok u S = _ from h); rfl
theorem RV.opt_some {r : RV} {v : AVal} {S : St} : r.opt = some (v, S) ↔ r = .ok v S := by
  cases r with
  | no => exact ⟨fun h => (by cases h), fun h => (by cases h)⟩
  | ok u T => exact ⟨fun h => (by cases h; rfl), fun h => (by cases h; rfl)⟩
theorem bindV {α : Type} {o : Option α} {k : α → RV} {v : AVal} {S : St} (h : @Option.rec α (fun _ => RV) .no k o = .ok v S) : ∃ x, o = some x ∧ k x = .ok v S := by
  cases o with
  | none => cases (show RV.no = _ from h)
  | some x => exact ⟨x, rfl, h⟩
theorem selV {b : Bool} {x : RV} {v : AVal} {S : St} (h : @Bool.rec (fun _ => RV) .no x b = .ok v S) : b = true ∧ x = .ok v S := by
  cases b with
  | false => cases (show RV.no = _ from h)
  | true => exact ⟨rfl, h⟩

/-! #### memory -/
theorem cellQ_eq (B : ABlk) (i : Nat) : cellQ B i = B.cell i := by
  cases B with
  | cells n d t =>
    show @Bool.rec (fun _ => Option AVal) none (@Option.rec AVal (fun _ => Option AVal) (some d) (fun v => some v) (getA t i)) (Nat.ble (Nat.succ i) n) = bsel (Nat.blt i n) (some (Option.casesOn (t.get i) d id)) none
    rw [getA_eq]
    show bsel (Nat.blt i n) _ none = _
    cases t.get i <;> rfl
  | amap es cl => rfl
  | dead => rfl
theorem loadQ_eq (S : St) (b i : Nat) : loadQ S b i = S.load b i := by
  obtain ⟨h, n⟩ := S
  show @Option.rec ABlk (fun _ => Nat → Option AVal) (fun _ => none) (fun B i => cellQ B i) (getB h b) i = oget (h.get b) fun B => B.cell i
  rw [getB_eq]
  cases h.get b with
  | none => rfl
  | some B => exact cellQ_eq B i
theorem setCellQ_eq (B : ABlk) (i : Nat) (v : AVal) : setCellQ B i v = B.setCell i v := by
  cases B with
  | cells n d t =>
    show bsel (Nat.blt i n) (@Tr.rec AVal (fun _ => Nat → AVal → Option ABlk) (fun _ _ => none) (fun a b c _ _ n d => some (.cells n d (.node a b c))) (setA t i v) n d) none = bsel (Nat.blt i n) (Tr.casesOn (t.set i v) none fun a b c => some (.cells n d (.node a b c))) none
    rw [setA_eq]
    cases t.set i v <;> rfl
  | amap es cl => rfl
  | dead => rfl
theorem store1Q_ok {S S' : St} {b i : Nat} {v u : AVal} (h : store1Q S b i v = .ok u S') : u = .tuple [] ∧ S.stores b i [v] = some S' := by
  obtain ⟨H, n⟩ := S
  have h : @Option.rec ABlk (fun _ => Nat → Tr ABlk → Nat → Nat → AVal → RV) (fun _ _ _ _ _ => .no)
    (fun B n h b i v => @Option.rec ABlk (fun _ => Nat → Tr ABlk → Nat → RV) (fun _ _ _ => .no) (fun B n h b => @Tr.rec ABlk (fun _ => Nat → RV) (fun _ => .no) (fun x y z _ _ n => .ok (.tuple []) ⟨.node x y z, n⟩) (setB h b B) n) (setCellQ B i v) n h b) (getB H b) n H b i v = .ok u S' := h
  rw [getB_eq] at h
  cases hB : H.get b with
  | none => rw [hB] at h; cases (show RV.no = _ from h)
  | some B =>
    rw [hB] at h
    have h : @Option.rec ABlk (fun _ => Nat → Tr ABlk → Nat → RV) (fun _ _ _ => .no) (fun B n h b => @Tr.rec ABlk (fun _ => Nat → RV) (fun _ => .no) (fun x y z _ _ n => .ok (.tuple []) ⟨.node x y z, n⟩) (setB h b B) n) (setCellQ B i v) n H b = .ok u S' := h
    rw [setCellQ_eq] at h
    cases hC : B.setCell i v with
    | none => rw [hC] at h; cases (show RV.no = _ from h)
    | some C =>
      rw [hC] at h
      have h : @Tr.rec ABlk (fun _ => Nat → RV) (fun _ => .no) (fun x y z _ _ n => .ok (.tuple []) ⟨.node x y z, n⟩) (setB H b C) n = .ok u S' := h
      rw [setB_eq] at h
      obtain ⟨x, y, z, e⟩ := Tr.set_node H b C
      rw [e] at h
      cases (show RV.ok (.tuple []) ⟨.node x y z, n⟩ = _ from h)
      refine ⟨rfl, ?_⟩
      simp only [St.stores, setCells, St.blk, oget_some]
      exact ⟨B, hB, C, ⟨C, hC, rfl⟩, by rw [St.setBlk_eq, e]⟩
theorem newQ_ok {S S' : St} {B : ABlk} {u : AVal} (h : newQ B S = .ok u S') : ∃ b, u = .ptr (some (b, 0)) ∧ S.new B = some (b, S') := by
  obtain ⟨H, n⟩ := S
  have h : @Tr.rec ABlk (fun _ => Nat → RV) (fun _ => .no) (fun x y z _ _ n => forceN (Nat.succ n) fun m => .ok (.ptr (some (n, 0))) ⟨.node x y z, m⟩) (setB H n B) n = .ok u S' := h
  rw [setB_eq] at h
  obtain ⟨x, y, z, e⟩ := Tr.set_node H n B
  rw [e] at h
  have h : forceN (Nat.succ n) (fun m => RV.ok (.ptr (some (n, 0))) ⟨.node x y z, m⟩) = .ok u S' := h
  rw [forceN_eq] at h
  cases h
  exact ⟨n, rfl, by rw [St.new_eq, e]⟩
end Go.Abs
