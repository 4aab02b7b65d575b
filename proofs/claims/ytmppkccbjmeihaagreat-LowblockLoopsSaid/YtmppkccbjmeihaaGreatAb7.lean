/- Operations that only reckon are the machine's. -/
import Derived.Test.YtmppkccbjmeihaaGreatAb6
import Derived.Orders
namespace Go.Abs
set_option autoImplicit true
set_option relaxedAutoImplicit true
set_option linter.unusedVariables false
set_option linter.unusedSimpArgs false
set_option linter.unusedSectionVars false
open Go.RowKit

/-- How slots stand. -/
def AR (ρ : Nat → Int) (μ : Mu) (F : Fr) (E : Env) (a : Act) : Prop := ∀ t v, lk F t E = some v → VR ρ μ v (a.tmps.getD t undef)

section
variable {P : Program} {ρ : Nat → Int} {μ : Mu} {F : Fr} {E : Env} {a : Act}

theorem evo_sound {x : Operand} {v : AVal} (h : evo F E x = some v) (ha : AR ρ μ F E a) : VR ρ μ v (a.eval x) := by
  cases x with
  | tmp t => exact ha t v h
  | const c => exact ofV_VR h
  | global g => cases h
  | func f => cases h; exact .fn f [] [] .nil
theorem evos_sound {l : List Operand} {vs : List AVal} (h : evos F E l = some vs) (ha : AR ρ μ F E a) : VRs ρ μ vs (l.map a.eval) := by
  induction l generalizing vs with
  | nil => cases h; exact .nil
  | cons x l ih =>
    simp only [evos, oget_some] at h
    obtain ⟨v, hv, vs', hvs, e⟩ := h
    cases e
    exact .cons _ _ _ _ (evo_sound hv ha) (ih hvs)
theorem truth_sound {orc : SB → Option Bool} (ho : ∀ c b, orc c = some b → c.den ρ = b) {v : AVal} {b : Bool} {x : Value} (h : truth orc v = some b) (hr : VR ρ μ v x) : x = .bool b := by
  unfold truth at h
  split at h
  · cases h; cases hr; rfl
  · cases hr; rw [ho _ _ h]
  · cases h

theorem conc_eq {x : Operand} {v : AVal} {z : Value} (h : evo F E x = some v) (hz : toV v = some z) (ha : AR ρ μ F E a) : conc F E x = a.eval x := by
  unfold conc
  rw [h]
  simp only [Option.bind_some, hz]
  exact (toV_eq hz (evo_sound h ha)).symm
theorem plains_mem : ∀ {l : List Operand} {vs : List AVal}, evos F E l = some vs → plains vs = some () → ∀ x ∈ l, ∃ v z, evo F E x = some v ∧ toV v = some z
  | [], vs, h, hp, x, hx => by cases hx
  | y :: l, vs, h, hp, x, hx => by
    simp only [evos, oget_some] at h
    obtain ⟨v, hv, vs', hvs, e⟩ := h
    cases e
    simp only [plains, oget_some] at hp
    obtain ⟨z, hz, hp⟩ := hp
    cases hx with
    | head => exact ⟨v, z, hv, hz⟩
    | tail _ hx => exact plains_mem hvs hp x hx
theorem generic_sound {o : Oper} {v : AVal} (h : generic P F E o = some v) (ha : AR ρ μ F E a) : ∃ x, VR ρ μ v x ∧ ∀ w, (execOp a.eval o).run P w = .ok (.value x) w := by
  simp only [generic, bsel_none', oget_some] at h
  obtain ⟨hs, vs, hvs, _, hp, h⟩ := h
  have hc : execOp a.eval o = execOp (conc F E) o := execOp_congr o (fun cs b e => by rw [e] at hs; cases hs) fun x hx => by
    obtain ⟨v, z, h1, h2⟩ := plains_mem hvs hp x (by simpa using hx)
    exact (conc_eq h1 h2 ha).symm
  split at h
  · rename_i u hu
    exact ⟨u, ofV_VR h, fun w => by rw [hc]; exact pureRun_sound _ _ hu w⟩
  · cases h

/-! #### two operands -/
theorem exec_bin (dst : Option Tmp) (op : BinOp) (T : TypeId) (x y : Operand) (u : TypeId) (type : TypeId) (pos : String) (after : Array Edge) (guard : Option (Nat × Bool)) (g : Operand → Value) (w : World) {z : Value} {w' : World}
    (h : (semBin op T x y (g x) (g y)).run P w = .ok z w') : (execOp g ⟨dst, .binOp op T x y u, type, pos, after, guard⟩).run P w = .ok (.value z) w' := by
  show (do pure (Next.value (← semBin op T x y (g x) (g y)))).run P w = _
  simp only [Sem.run_bind, h, Result.andThen_ok, Sem.run_pure]
theorem eqNil_eq {op : BinOp} {b : Bool} {v : AVal} (h : eqNil op b = some v) : op = .eql ∧ v = .bool b ∨ op = .neq ∧ v = .bool (!b) := by
  unfold eqNil at h
  split at h
  · cases h; exact .inl ⟨rfl, rfl⟩
  · cases h; right; cases b <;> exact ⟨rfl, rfl⟩
  · cases h
theorem semBin_eq {op : BinOp} {T : TypeId} {x y : Operand} {a b : Value} {r : Bool} {v : AVal} (hv : eqNil op r = some v) (hg : ∀ w, (eqGuard op T x y a b).run P w = .ok () w)
    (hb : Go.binOp op T a b = (match op with | .eql => do pure (.bool (← Op.equal T a b)) | _ => do pure (.bool (!(← Op.equal T a b))))) (he : ∀ w, (Op.equal T a b).run P w = .ok r w) :
    ∃ z, VR ρ μ v z ∧ ∀ w, (semBin op T x y a b).run P w = .ok z w := by
  rcases eqNil_eq hv with ⟨rfl, rfl⟩ | ⟨rfl, rfl⟩
  · exact ⟨_, .bool _, fun w => by simp only [semBin, Sem.run_bind, hg, Result.andThen_ok, hb, he, Sem.run_pure]⟩
  · exact ⟨_, .bool _, fun w => by simp only [semBin, Sem.run_bind, hg, Result.andThen_ok, hb, he, Sem.run_pure]⟩
theorem isSliceT_eq {t : TypeId} (h : isSliceT P t = true) : ∃ e, P.underlying t = some (.slice e) := by
  unfold isSliceT at h; split at h
  · exact ⟨_, ‹_›⟩
  · cases h
theorem isPtrT_eq {t : TypeId} (h : isPtrT P t = true) : ∃ e, P.underlying t = some (.pointer e) := by
  unfold isPtrT at h; split at h
  · exact ⟨_, ‹_›⟩
  · cases h
theorem isFuncT_eq {t : TypeId} (h : isFuncT P t = true) : ∃ p r v, P.underlying t = some (.func p r v) := by
  unfold isFuncT at h; split at h
  · exact ⟨_, _, _, ‹_›⟩
  · cases h
theorem isIfaceT_eq {t : TypeId} (h : isIfaceT P t = true) : ∃ m, P.underlying t = some (.interface m) := by
  unfold isIfaceT at h; split at h
  · exact ⟨_, ‹_›⟩
  · cases h
theorem isStringT_eq {t : TypeId} (h : isStringT P t = true) : P.underlying t = some .string := by
  unfold isStringT at h; split at h
  · assumption
  · cases h
theorem isIntT_eq {t : TypeId} {k : IntKind} (h : isIntT P t = some k) : P.underlying t = some (.int k) := by
  unfold isIntT at h; split at h
  · rename_i q hq; cases h; exact hq
  · cases h

theorem eq_slice {T e : TypeId} (hT : P.underlying T = some (.slice e)) (d : Nat) (p : Option Addr) (l c : Nat) (w : World) : (Op.equalIn (d + 1) T (.slice p l c) (.slice none 0 0)).run P w = .ok p.isNone w := by
  cases p <;> simp [Op.equalIn, run_underlying hT]
theorem eq_ptr {T e : TypeId} (hT : P.underlying T = some (.pointer e)) (d : Nat) (p : Option Addr) (w : World) : (Op.equalIn (d + 1) T (.pointer p) (.pointer none)).run P w = .ok p.isNone w := by
  cases p <;> simp [Op.equalIn, run_underlying hT]
theorem eq_func {T : TypeId} {p r : Array TypeId} {q : Bool} (hT : P.underlying T = some (.func p r q)) (d : Nat) (f : Fn) (x y : Array Value) (w : World) : (Op.equalIn (d + 1) T (.func f x y) .nilFunc).run P w = .ok false w := by
  simp [Op.equalIn, run_underlying hT]
theorem eq_iface {T : TypeId} {m : Array (String × TypeId)} (hT : P.underlying T = some (.interface m)) (d : Nat) (t : TypeId) (v : Value) (w : World) : (Op.equalIn (d + 1) T (.iface t v) .nilIface).run P w = .ok false w := by
  simp [Op.equalIn, run_underlying hT]

theorem asym_sound {op : BinOp} {k k' : IntKind} {x y : SE} {v : AVal} (h : asym op k k' x y = some v) (T : TypeId) :
    ∃ z, VR ρ μ v z ∧ ∀ w, (Go.binOp op T (.int k (x.den ρ)) (.int k' (y.den ρ))).run P w = .ok z w := by
  unfold asym at h
  by_cases h1 : isCmp op = true
  · simp only [h1, bsel_true, bsel_none] at h
    obtain ⟨h2, h3⟩ := h
    cases h3
    obtain rfl := isK_eq h2
    exact ⟨_, .symb _, fun w => intCmp_sound k _ _ T h1 w⟩
  · simp only [Bool.not_eq_true] at h1
    simp only [h1, bsel_false] at h
    by_cases h2 : isArith op = true
    · simp only [h2, bsel_true, bsel_none] at h
      obtain ⟨h3, h4⟩ := h
      cases h4
      obtain rfl := isK_eq h3
      exact ⟨_, .sym _ _, fun w => intBin_sound k k _ _ T (.inl ⟨h2, rfl⟩) w⟩
    · simp only [Bool.not_eq_true] at h2
      simp only [h2, bsel_false] at h
      split at h
      · rename_i n
        by_cases h3 : isShift op = true
        · simp only [h3, bsel_true] at h
          cases h
          exact ⟨_, .sym _ _, fun w => intBin_sound k k' _ _ T (.inr (.inl ⟨h3, by show (0 : Int) ≤ (n : Int); omega⟩)) w⟩
        · simp only [Bool.not_eq_true] at h3
          simp only [h3, bsel_false, bsel_none, bsel_none'] at h
          obtain ⟨h4, h5, h6, h7⟩ := h
          cases h7
          obtain rfl := isK_eq h5
          refine ⟨_, .sym _ _, fun w => intBin_sound k k _ _ T (.inr (.inr ⟨?_, ?_, rfl⟩)) w⟩
          · cases op <;> first | exact absurd h4 (by decide) | exact .inl rfl | exact .inr rfl
          · show (n : Int) ≠ 0
            intro e
            have : n = 0 := by omega
            subst this
            cases h6
      · cases h

theorem abin_sound {dst : Option Tmp} {op : BinOp} {T : TypeId} {x y : Operand} {u type : TypeId} {pos : String} {after : Array Edge} {guard : Option (Nat × Bool)} {va vb v : AVal}
    (hx : evo F E x = some va) (hy : evo F E y = some vb) (h : abin P F E ⟨dst, .binOp op T x y u, type, pos, after, guard⟩ op T va vb = some v) (ha : AR ρ μ F E a) :
    ∃ z, VR ρ μ v z ∧ ∀ w, (execOp a.eval ⟨dst, .binOp op T x y u, type, pos, after, guard⟩).run P w = .ok (.value z) w := by
  have gx := evo_sound hx ha
  have gy := evo_sound hy ha
  have fin : ∀ {va' vb' : Value}, a.eval x = va' → a.eval y = vb' → (∃ z, VR ρ μ v z ∧ ∀ w, (semBin op T x y va' vb').run P w = .ok z w) →
      ∃ z, VR ρ μ v z ∧ ∀ w, (execOp a.eval ⟨dst, .binOp op T x y u, type, pos, after, guard⟩).run P w = .ok (.value z) w := fun e1 e2 ⟨z, hz, hw⟩ =>
    ⟨z, hz, fun w => exec_bin dst op T x y u type pos after guard a.eval w (by rw [e1, e2]; exact hw w)⟩
  have fint : ∀ {k k' : IntKind} {m n : Int}, a.eval x = .int k m → a.eval y = .int k' n → (∃ z, VR ρ μ v z ∧ ∀ w, (Go.binOp op T (.int k m) (.int k' n)).run P w = .ok z w) →
      ∃ z, VR ρ μ v z ∧ ∀ w, (execOp a.eval ⟨dst, .binOp op T x y u, type, pos, after, guard⟩).run P w = .ok (.value z) w := fun e1 e2 ⟨z, hz, hw⟩ =>
    fin e1 e2 ⟨z, hz, fun w => by rw [semBin_int]; exact hw w⟩
  unfold abin at h
  split at h
  · rename_i k m k' n
    generalize ex : a.eval x = X at gx
    generalize ey : a.eval y = Y at gy
    cases gx
    cases gy
    by_cases hs : isShift op = true
    · simp only [hs, bsel_true] at h
      split at h
      · rename_i z hz; cases h; exact fint ex ey (ibits_sound hz (.inl hs) T)
      · exact generic_sound h ha
    · simp only [Bool.not_eq_true] at hs
      simp only [hs, bsel_false, bsel_none] at h
      obtain ⟨hk, h⟩ := h
      obtain rfl := isK_eq hk
      split at h
      · rename_i z hz; cases h; exact fint ex ey (ibin_sound hz T)
      · split at h
        · rename_i z hz; cases h; exact fint ex ey (ibits_sound hz (.inr rfl) T)
        · exact generic_sound h ha
  · generalize ex : a.eval x = X at gx
    generalize ey : a.eval y = Y at gy
    cases gx
    cases gy
    exact fint ex ey (asym_sound (ρ := ρ) h T)
  · generalize ex : a.eval x = X at gx
    generalize ey : a.eval y = Y at gy
    cases gx
    cases gy
    exact fint ex ey (asym_sound (ρ := ρ) h T)
  · generalize ex : a.eval x = X at gx
    generalize ey : a.eval y = Y at gy
    cases gx
    cases gy
    exact fint ex ey (asym_sound (ρ := ρ) h T)
  · simp only [bsel_none] at h
    obtain ⟨hT, h⟩ := h
    obtain ⟨e, hT⟩ := isSliceT_eq hT
    generalize ex : a.eval x = X at gx
    generalize ey : a.eval y = Y at gy
    cases gy
    refine fin ex ey (semBin_eq (r := _) h (fun w => ?_) ?_ (fun w => ?_))
    · cases gx <;> (unfold eqGuard; rcases eqNil_eq h with ⟨rfl, _⟩ | ⟨rfl, _⟩ <;> simp)
    · cases gx <;> rcases eqNil_eq h with ⟨rfl, _⟩ | ⟨rfl, _⟩ <;> rfl
    · cases gx <;> exact eq_slice hT 9999 _ _ _ w
  · simp only [bsel_none] at h
    obtain ⟨hT, h⟩ := h
    obtain ⟨e, hT⟩ := isSliceT_eq hT
    generalize ex : a.eval x = X at gx
    generalize ey : a.eval y = Y at gy
    cases gy
    refine fin ex ey (semBin_eq (r := _) h (fun w => ?_) ?_ (fun w => ?_))
    · cases gx; unfold eqGuard; rcases eqNil_eq h with ⟨rfl, _⟩ | ⟨rfl, _⟩ <;> simp
    · cases gx; rcases eqNil_eq h with ⟨rfl, _⟩ | ⟨rfl, _⟩ <;> rfl
    · cases gx; exact eq_slice hT 9999 _ _ _ w
  · simp only [bsel_none] at h
    obtain ⟨hT, h⟩ := h
    obtain ⟨e, hT⟩ := isPtrT_eq hT
    generalize ex : a.eval x = X at gx
    generalize ey : a.eval y = Y at gy
    cases gy
    refine fin ex ey (semBin_eq (r := _) h (fun w => ?_) ?_ (fun w => ?_))
    · cases gx <;> (unfold eqGuard; rcases eqNil_eq h with ⟨rfl, _⟩ | ⟨rfl, _⟩ <;> simp)
    · cases gx <;> rcases eqNil_eq h with ⟨rfl, _⟩ | ⟨rfl, _⟩ <;> rfl
    · cases gx <;> exact eq_ptr hT 9999 _ w
  · simp only [bsel_none] at h
    obtain ⟨hT, h⟩ := h
    obtain ⟨p, r, q, hT⟩ := isFuncT_eq hT
    generalize ex : a.eval x = X at gx
    generalize ey : a.eval y = Y at gy
    cases gy
    refine fin ex ey (semBin_eq (r := _) h (fun w => ?_) ?_ (fun w => ?_))
    · cases gx; unfold eqGuard; rcases eqNil_eq h with ⟨rfl, _⟩ | ⟨rfl, _⟩ <;> simp
    · cases gx; rcases eqNil_eq h with ⟨rfl, _⟩ | ⟨rfl, _⟩ <;> rfl
    · cases gx; exact eq_func hT 9999 _ _ _ w
  · simp only [bsel_none] at h
    obtain ⟨hT, h⟩ := h
    obtain ⟨p, hT⟩ := isIfaceT_eq hT
    generalize ex : a.eval x = X at gx
    generalize ey : a.eval y = Y at gy
    cases gy
    refine fin ex ey (semBin_eq (r := _) h (fun w => ?_) ?_ (fun w => ?_))
    · cases gx; unfold eqGuard; rcases eqNil_eq h with ⟨rfl, _⟩ | ⟨rfl, _⟩ <;> simp
    · cases gx; rcases eqNil_eq h with ⟨rfl, _⟩ | ⟨rfl, _⟩ <;> rfl
    · cases gx; exact eq_iface hT 9999 _ _ w
  · exact generic_sound h ha
end
end Go.Abs
