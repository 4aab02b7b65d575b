/- The faster form: operations. -/
import Derived.Test.YtmppkccbjmeihaaGreatQe2
namespace Go.Abs
set_option autoImplicit true
set_option relaxedAutoImplicit true
set_option linter.unusedVariables false
set_option linter.unusedSimpArgs false
set_option linter.unusedSectionVars false

theorem ldP_ok {a v : AVal} {S S' : St} (h : ldP a S = .ok v S') : ∃ b i, a = .ptr (some (b, i)) ∧ S.load b i = some v ∧ S' = S := by
  cases a with
  | ptr o => cases o with
    | none => cases (show RV.no = _ from h)
    | some p =>
      obtain ⟨b, i⟩ := p
      obtain ⟨h1, h2⟩ := rvV_ok (show rvV (loadQ S b i) S = _ from h)
      exact ⟨b, i, rfl, by rw [← loadQ_eq]; exact h1, h2⟩
  | _ => cases (show RV.no = _ from h)
theorem st1P_ok {a v u : AVal} {S S' : St} (h : st1P a v S = .ok u S') : ∃ b i, a = .ptr (some (b, i)) ∧ u = .tuple [] ∧ S.stores b i [v] = some S' := by
  cases a with
  | ptr o => cases o with
    | none => cases (show RV.no = _ from h)
    | some p =>
      obtain ⟨b, i⟩ := p
      obtain ⟨h1, h2⟩ := store1Q_ok (show store1Q S b i v = _ from h)
      exact ⟨b, i, rfl, h1, h2⟩
  | _ => cases (show RV.no = _ from h)
theorem faP_ok {a u : AVal} {k : Nat} {S S' : St} (h : faP a k S = .ok u S') : ∃ b i, a = .ptr (some (b, i)) ∧ u = .ptr (some (b, i + k)) ∧ S' = S := by
  cases a with
  | ptr o => cases o with
    | none => cases (show RV.no = _ from h)
    | some p =>
      obtain ⟨b, i⟩ := p
      have h : forceN (Nat.add i k) (fun i => RV.ok (.ptr (some (b, i))) S) = .ok u S' := h
      rw [forceN_eq] at h
      cases h
      exact ⟨b, i, rfl, rfl, rfl⟩
  | _ => cases (show RV.no = _ from h)
theorem iaP_ok {a x u : AVal} {es : Nat} {S S' : St} (h : iaP a x es S = .ok u S') : ∃ b o len cap opn k i, a = .slice (some (b, o)) len cap opn ∧ x = .int k (.ofNat i) ∧ Nat.blt i len = true ∧ u = .ptr (some (b, o + i * es)) ∧ S' = S := by
  cases a with
  | slice o len cap opn => cases o with
    | none => cases (show RV.no = _ from h)
    | some p =>
      obtain ⟨b, o⟩ := p
      have h : iaI x b o len es S = .ok u S' := h
      cases x with
      | int k n => cases n with
        | ofNat i =>
          obtain ⟨h1, h2⟩ := selV (show @Bool.rec (fun _ => RV) .no (forceN (Nat.add o (Nat.mul i es)) fun j => .ok (.ptr (some (b, j))) S) (Nat.ble (Nat.succ i) len) = _ from h)
          rw [forceN_eq] at h2
          cases h2
          exact ⟨b, o, len, cap, opn, k, i, rfl, rfl, h1, rfl, rfl⟩
        | negSucc i => cases (show RV.no = _ from h)
      | _ => cases (show RV.no = _ from h)
  | _ => cases (show RV.no = _ from h)
theorem extP_ok {a u : AVal} {i : Nat} {S S' : St} (h : extP a i S = .ok u S') : ∃ vs, a = .tuple vs ∧ vs[i]? = some u ∧ S' = S := by
  cases a with
  | tuple vs => obtain ⟨h1, h2⟩ := rvV_ok (show rvV vs[i]? S = _ from h); exact ⟨vs, rfl, h1, h2⟩
  | _ => cases (show RV.no = _ from h)
theorem fld0P_ok {a u : AVal} {i : Nat} {S S' : St} (h : fld0P a i S = .ok u S') : ∃ vs, a = .agg vs ∧ vs[i]? = some u ∧ S' = S := by
  cases a with
  | agg vs => obtain ⟨h1, h2⟩ := rvV_ok (show rvV vs[i]? S = _ from h); exact ⟨vs, rfl, h1, h2⟩
  | _ => cases (show RV.no = _ from h)
theorem fldnP_ok {a u : AVal} {i n : Nat} {S S' : St} (h : fldnP a i n S = .ok u S') : ∃ vs, a = .agg vs ∧ Nat.ble (i + n) vs.length = true ∧ u = .agg ((vs.drop i).take n) ∧ S' = S := by
  cases a with
  | agg vs =>
    obtain ⟨h1, h2⟩ := selV (show @Bool.rec (fun _ => RV) .no (.ok (.agg ((vs.drop i).take n)) S) (Nat.ble (Nat.add i n) vs.length) = _ from h)
    cases h2
    exact ⟨vs, rfl, h1, rfl, rfl⟩
  | _ => cases (show RV.no = _ from h)
theorem lenP_ok {a u : AVal} {sl st : Bool} {S S' : St} (h : lenP a sl st S = .ok u S') : S' = S ∧
    ((∃ o n c p, a = .slice o n c p ∧ sl = true ∧ u = .int .i64 n) ∨ (a = .eslice ∧ sl = true ∧ u = .int .i64 0) ∨ (∃ s, a = .str s ∧ st = true ∧ u = .int .i64 s.size)) := by
  cases a with
  | slice o n c p => obtain ⟨h1, h2⟩ := selV (show @Bool.rec (fun _ => RV) .no (.ok (.int .i64 (.ofNat n)) S) sl = _ from h); cases h2; exact ⟨rfl, .inl ⟨o, n, c, p, rfl, h1, rfl⟩⟩
  | eslice => obtain ⟨h1, h2⟩ := selV (show @Bool.rec (fun _ => RV) .no (.ok (.int .i64 (.ofNat 0)) S) sl = _ from h); cases h2; exact ⟨rfl, .inr (.inl ⟨rfl, h1, rfl⟩)⟩
  | str s => obtain ⟨h1, h2⟩ := selV (show @Bool.rec (fun _ => RV) .no (.ok (.int .i64 (.ofNat s.size)) S) st = _ from h); cases h2; exact ⟨rfl, .inr (.inr ⟨s, rfl, h1, rfl⟩)⟩
  | _ => cases (show RV.no = _ from h)
theorem ncP_ok {a u : AVal} {S S' : St} (h : ncP a S = .ok u S') : S' = S ∧ u = a ∧ ((∃ p, a = .ptr (some p)) ∨ ∃ f cs, a = .fn f cs) := by
  cases a with
  | ptr o => cases o with
    | none => cases (show RV.no = _ from h)
    | some p => cases (show RV.ok (.ptr (some p)) S = _ from h); exact ⟨rfl, rfl, .inl ⟨p, rfl⟩⟩
  | fn f cs => cases (show RV.ok (.fn f cs) S = _ from h); exact ⟨rfl, rfl, .inr ⟨f, cs, rfl⟩⟩
  | _ => cases (show RV.no = _ from h)
theorem boolQ_eq (b : Bool) (S : St) : boolQ b S = .ok (.bool b) S := by cases b <;> rfl
theorem nboolQ_eq (b : Bool) (S : St) : nboolQ b S = .ok (.bool (bsel b false true)) S := by cases b <;> rfl
theorem notP_ok {a u : AVal} {S S' : St} (h : notP a S = .ok u S') : S' = S ∧ ((∃ b, a = .bool b ∧ u = .bool (bsel b false true)) ∨ ∃ c, a = .symb c ∧ u = .symb (.not c)) := by
  cases a with
  | bool b => have h : nboolQ b S = _ := h; rw [nboolQ_eq] at h; cases h; exact ⟨rfl, .inl ⟨b, rfl, rfl⟩⟩
  | symb c => cases (show RV.ok (.symb (.not c)) S = _ from h); exact ⟨rfl, .inr ⟨c, rfl, rfl⟩⟩
  | _ => cases (show RV.no = _ from h)
theorem isCellQ_eq (v : AVal) : isCellQ v = isCell v := by cases v <;> rfl
theorem truthQ_eq (orc : SB → Option Bool) (v : AVal) : truthQ orc v = truth orc v := by cases v <;> rfl
theorem isKQ_eq (a b : IntKind) : isKQ a b = isK a b := by cases a <;> cases b <;> rfl
theorem eqQ_eq (a b : Int) : eqQ a b = eqI a b := by cases a <;> cases b <;> rfl
theorem leQ_eq (a b : Int) : leQ a b = leI a b := by
  rw [leI_eq, Bool.eq_iff_iff, decide_eq_true_iff]
  cases a with
  | ofNat m => cases b with
    | ofNat n => show Nat.ble m n = true ↔ _; rw [Nat.ble_eq]; simp
    | negSucc n => show false = true ↔ _; simp; omega
  | negSucc m => cases b with
    | ofNat n => show true = true ↔ _; simp; omega
    | negSucc n => show Nat.ble n m = true ↔ _; rw [Nat.ble_eq]; omega
theorem intQ_ok {k : IntKind} {n : Int} {u : AVal} {S S' : St} (h : intQ k n S = .ok u S') : intV k n = some u ∧ S' = S := rvV_ok h
theorem cviP_ok {a u : AVal} {k : IntKind} {S S' : St} (h : cviP a k S = .ok u S') : S' = S ∧ ((∃ k' n, a = .int k' n ∧ intV k n = some u) ∨ ∃ k' e, a = .sym k' e ∧ u = .sym k (.conv k e)) := by
  cases a with
  | int k' n => obtain ⟨h1, h2⟩ := intQ_ok (show intQ k n S = _ from h); exact ⟨h2, .inl ⟨k', n, rfl, h1⟩⟩
  | sym k' e => cases (show RV.ok (.sym k (.conv k e)) S = _ from h); exact ⟨rfl, .inr ⟨k', e, rfl, rfl⟩⟩
  | _ => cases (show RV.no = _ from h)

/-- Numbers of one kind. -/
theorem binP_ok {P : Program} {F : Fr} {E : Env} {o : Oper} {op : BinOp} {T : TypeId} {a b u : AVal} {S S' : St} (h : binP a b op S (rvV (abin P F E o op T a b) S) = .ok u S') : abin P F E o op T a b = some u ∧ S' = S := by
  have slow : ∀ {r : RV}, r = rvV (abin P F E o op T a b) S → r = .ok u S' → abin P F E o op T a b = some u ∧ S' = S := fun e h => rvV_ok (e ▸ h)
  cases a with
  | int k x =>
    cases b with
    | int k' y =>
      have h : @Bool.rec (fun _ => RV) (rvV (abin P F E o op T (.int k x) (.int k' y)) S) (binO op k x y S (rvV (abin P F E o op T (.int k x) (.int k' y)) S)) (isKQ k k') = .ok u S' := h
      rw [isKQ_eq] at h
      cases hk : isK k k' with
      | false => rw [hk] at h; exact rvV_ok h
      | true =>
        rw [hk] at h
        have h : binO op k x y S (rvV (abin P F E o op T (.int k x) (.int k' y)) S) = .ok u S' := h
        have eb : ∀ b : Bool, (match some (AVal.bool b) with | some v => some v | none => (match ibits op k x y with | some v => some v | none => generic P F E o)) = some (.bool b) := fun _ => rfl
        cases op with
        | add =>
          obtain ⟨h1, h2⟩ := intQ_ok (show intQ k (Int.add x y) S = _ from h)
          refine ⟨?_, h2⟩
          simp only [abin, hk, bsel_true]
          show (match intV k (Int.add x y) with | some v => some v | none => _) = _
          rw [h1]
        | sub =>
          obtain ⟨h1, h2⟩ := intQ_ok (show intQ k (Int.sub x y) S = _ from h)
          refine ⟨?_, h2⟩
          simp only [abin, hk, bsel_true]
          show (match intV k (Int.sub x y) with | some v => some v | none => _) = _
          rw [h1]
        | mul =>
          obtain ⟨h1, h2⟩ := intQ_ok (show intQ k (Int.mul x y) S = _ from h)
          refine ⟨?_, h2⟩
          simp only [abin, hk, bsel_true]
          show (match intV k (Int.mul x y) with | some v => some v | none => _) = _
          rw [h1]
        | eql => have h : boolQ (eqQ x y) S = _ := h; rw [boolQ_eq, eqQ_eq] at h; cases h; simp only [abin, hk, bsel_true]; exact ⟨rfl, trivial⟩
        | neq => have h : nboolQ (eqQ x y) S = _ := h; rw [nboolQ_eq, eqQ_eq] at h; cases h; simp only [abin, hk, bsel_true]; exact ⟨rfl, trivial⟩
        | lss => have h : nboolQ (leQ y x) S = _ := h; rw [nboolQ_eq, leQ_eq] at h; cases h; simp only [abin, hk, bsel_true]; exact ⟨rfl, trivial⟩
        | leq => have h : boolQ (leQ x y) S = _ := h; rw [boolQ_eq, leQ_eq] at h; cases h; simp only [abin, hk, bsel_true]; exact ⟨rfl, trivial⟩
        | gtr => have h : nboolQ (leQ x y) S = _ := h; rw [nboolQ_eq, leQ_eq] at h; cases h; simp only [abin, hk, bsel_true]; exact ⟨rfl, trivial⟩
        | geq => have h : boolQ (leQ y x) S = _ := h; rw [boolQ_eq, leQ_eq] at h; cases h; simp only [abin, hk, bsel_true]; exact ⟨rfl, trivial⟩
        | _ => exact rvV_ok h
    | _ => exact slow rfl h
  | _ => exact slow rfl h
end Go.Abs
