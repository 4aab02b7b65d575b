/- Operations look at their operands alone. -/
import Derived.Test.YtmppkccbjmeihaaGreatAb17
namespace Go.Abs
set_option autoImplicit true
set_option relaxedAutoImplicit true
set_option linter.unusedVariables false
set_option linter.unusedSimpArgs false
set_option linter.unusedSectionVars false
open Go.RowKit

section
variable {P : Program} {ρ : Nat → Int} {μ : Mu} {F F' : Fr} {E E' : Env} {a : Act} {S S' S₁ : St} {C : Handler} {orc : SB → Option Bool} {w : World}

theorem evos_congr : ∀ {l : List Operand}, (∀ x ∈ l, evo F E x = evo F' E' x) → evos F E l = evos F' E' l
  | [], _ => rfl
  | x :: l, h => by
    simp only [evos]
    rw [h x (by simp), evos_congr (l := l) fun y hy => h y (by simp [hy])]
theorem generic_congr {o : Oper} (h : ∀ x ∈ o.op.operands, evo F E x = evo F' E' x) : generic P F E o = generic P F' E' o := by
  unfold generic
  rw [evos_congr (F := F) (E := E) (F' := F') (E' := E') fun x hx => h x (by simpa using hx)]
  cases hs : isSelect o.op
  · have : execOp (conc F E) o = execOp (conc F' E') o := execOp_congr o (fun cs b e => by rw [e] at hs; cases hs) fun x hx => by unfold conc; rw [h x hx]
    rw [this]
  · rfl
theorem boundOr_congr {x : Option Operand} {d m : Nat} {k : Nat → Option AVal} (h : ∀ y, x = some y → evo F E y = evo F' E' y) : boundOr F E x d m k = boundOr F' E' x d m k := by
  cases x with
  | none => rfl
  | some y => simp only [boundOr, h y rfl]
theorem fillS_congr {pl : List (Nat × Nat)} : ∀ {ps : List (Nat × Operand)} {l : List AVal}, (∀ p ∈ ps, evo F E p.2 = evo F' E' p.2) → fillS pl l F E ps = fillS pl l F' E' ps
  | [], _, _ => rfl
  | (i, x) :: ps, l, h => by
    simp only [fillS]
    rw [h (i, x) (by simp)]
    simp only [fillS_congr (ps := ps) fun p hp => h p (by simp [hp])]
theorem fillA_congr {es : Nat} : ∀ {ps : List (Nat × Operand)} {l : List AVal}, (∀ p ∈ ps, evo F E p.2 = evo F' E' p.2) → fillA es l F E ps = fillA es l F' E' ps
  | [], _, _ => rfl
  | (i, x) :: ps, l, h => by
    simp only [fillA]
    rw [h (i, x) (by simp)]
    simp only [fillA_congr (ps := ps) fun p hp => h p (by simp [hp])]
theorem abin_congr {o : Oper} {op : BinOp} {T : TypeId} {x y : AVal} (h : ∀ x ∈ o.op.operands, evo F E x = evo F' E' x) : abin P F E o op T x y = abin P F' E' o op T x y := by
  unfold abin
  rw [generic_congr h]
theorem oget_none' {α β : Type} (k : α → Option β) : oget none k = none := rfl
theorem oget_some' {α β : Type} (x : α) (k : α → Option β) : oget (some x) k = k x := rfl
theorem aslice_congr {T : TypeId} {v : AVal} {lo hi mx : Option Operand} (h1 : ∀ y, lo = some y → evo F E y = evo F' E' y) (h2 : ∀ y, hi = some y → evo F E y = evo F' E' y) (h3 : ∀ y, mx = some y → evo F E y = evo F' E' y) :
    aslice P F E T v lo hi mx = aslice P F' E' T v lo hi mx := by
  unfold aslice
  simp only [boundOr_congr (k := _) h1, boundOr_congr (k := _) h2]
  cases mx with
  | none => rfl
  | some m =>
    cases hi with
    | none =>
      simp only [boundOr, h3 m rfl, oget_none']
    | some g =>
      simp only [boundOr, h3 m rfl, oget_some', h2 g rfl]
theorem evOp_congr {o : Oper} (h : ∀ x ∈ o.op.operands, evo F E x = evo F' E' x) : evOp C P orc F E S o = evOp C P orc F' E' S o := by
  have hg := generic_congr (P := P) h
  obtain ⟨dst, op, type, pos, after, guard⟩ := o
  cases op <;> simp only [Op.operands] at h <;> simp only [evOp] <;> (try rw [hg])
  case move x => rw [h x (by simp)]
  case assign x => rw [h x (by simp)]
  case pick c x y => rw [h c (by simp), h x (by simp), h y (by simp)]
  case box T x => rw [h x (by simp)]
  case build t ps =>
    have h1 : ∀ p ∈ ps.toList, evo F E p.2 = evo F' E' p.2 := fun p hp => h p.2 (List.mem_toArray.2 (List.mem_map.2 ⟨p, hp, rfl⟩))
    simp only [fillA_congr h1, fillS_congr h1]
  case buildSlice t n ps =>
    have h1 : ∀ p ∈ ps.toList, evo F E p.2 = evo F' E' p.2 := fun p hp => h p.2 (List.mem_toArray.2 (List.mem_map.2 ⟨p, hp, rfl⟩))
    simp only [fillA_congr h1]
  case load t x => rw [h x (by simp)]
  case store t x y => rw [h x (by simp), h y (by simp)]
  case nilCheck x => rw [h x (by simp)]
  case binOp op T x y u =>
    rw [h x (by simp), h y (by simp)]
    simp only [abin_congr (P := P) (o := ⟨dst, .binOp op T x y u, type, pos, after, guard⟩) (F := F) (F' := F') (E := E) (E' := E') h]
  case unOp op T x => rw [h x (by simp)]
  case convert s d x => rw [h x (by simp)]
  case makeInterface T x => rw [h x (by simp)]
  case makeFunc fn first captured =>
    cases fn <;> (try simp only []) <;> (try rw [hg])
    have : evos F E captured.toList = evos F' E' captured.toList := evos_congr fun x hx => h x (by simp only [Array.mem_append]; right; simpa using hx)
    rw [this]
  case makeMap t r => cases r <;> (try simp only []) <;> (try rw [hg])
  case makeSlice t l c => rw [h l (by simp), h c (by simp)]
  case slice T x lo hi mx =>
    rw [h x (by simp)]
    have : ∀ v, aslice P F E T v lo hi mx = aslice P F' E' T v lo hi mx := fun v => aslice_congr (fun y hy => h y (by subst hy; simp)) (fun y hy => h y (by subst hy; simp)) (fun y hy => h y (by subst hy; simp))
    simp only [this]
  case fieldAddr s x f => rw [h x (by simp)]
  case field s x f => rw [h x (by simp)]
  case indexAddr T x i => rw [h x (by simp), h i (by simp)]
  case lookup T m k ok => rw [h m (by simp), h k (by simp)]
  case mapUpdate T m k x => rw [h m (by simp), h k (by simp), h x (by simp)]
  case extract x i => rw [h x (by simp)]
  case call c =>
    have h1 : evos F E c.args.toList = evos F' E' c.args.toList := evos_congr fun x hx => h x (by simp only [Call.operands]; simp; right; simpa using hx)
    have h2 : ∀ x ∈ c.args.toList, evo F E x = evo F' E' x := fun x hx => h x (by simp only [Call.operands]; simp; right; simpa using hx)
    unfold callAny
    cases hc : c.callee with
    | value f =>
      have h3 : evo F E f = evo F' E' f := h f (by simp [Call.operands, hc])
      simp only [h3, h1, hg]
    | invoke r m => rfl
    | builtin b =>
      cases b <;> (try simp only [hg])
      case len =>
        cases ht : c.args.toList with
        | nil => rfl
        | cons x l => cases l with
          | nil => simp only [h2 x (by rw [ht]; simp)]
          | cons y l => rfl
      case cap =>
        cases ht : c.args.toList with
        | nil => rfl
        | cons x l => cases l with
          | nil => simp only [h2 x (by rw [ht]; simp)]
          | cons y l => rfl
      case append =>
        cases ht : c.args.toList with
        | nil => rfl
        | cons x l => cases l with
          | nil => rfl
          | cons y l => cases l with
            | nil => simp only [h2 x (by rw [ht]; simp), h2 y (by rw [ht]; simp)]
            | cons z l => rfl
      case copy =>
        cases ht : c.args.toList with
        | nil => rfl
        | cons x l => cases l with
          | nil => rfl
          | cons y l => cases l with
            | nil =>
              generalize c.argTypes.toList = L
              cases L with
              | nil => rfl
              | cons T L => cases L with
                | nil => rfl
                | cons U L => cases L with
                  | nil => simp only [h2 x (by rw [ht]; simp), h2 y (by rw [ht]; simp)]
                  | cons V L => rfl
            | cons z l => rfl

/-- The slots that an operation looks at, alone. -/
def only (o : Oper) (F : Fr) (E : Env) : Env := o.op.operands.toList.filterMap fun x => match x with | .tmp t => (lk F t E).map fun v => (t, v) | _ => none
theorem lk_filter (t : Nat) : ∀ (l : List Operand),
    (∀ v, lk ⟨F.n, .leaf⟩ t (l.filterMap fun x => match x with | .tmp t => (lk F t E).map fun v => (t, v) | _ => none) = some v → Operand.tmp t ∈ l ∧ lk F t E = some v) ∧
    (Operand.tmp t ∈ l → lk ⟨F.n, .leaf⟩ t (l.filterMap fun x => match x with | .tmp t => (lk F t E).map fun v => (t, v) | _ => none) = lk F t E)
  | [] => ⟨fun v h => (by cases h), fun h => (by cases h)⟩
  | x :: l => by
    obtain ⟨h1, h2⟩ := lk_filter t l
    cases x with
    | tmp s =>
      simp only [List.filterMap_cons]
      cases hs : lk F s E with
      | none =>
        simp only [Option.map_none]
        refine ⟨fun v hv => ⟨List.mem_cons_of_mem _ (h1 v hv).1, (h1 v hv).2⟩, fun hm => ?_⟩
        rcases List.mem_cons.1 hm with e | hm
        · cases e
          cases hl : lk ⟨F.n, .leaf⟩ t (l.filterMap fun x => match x with | .tmp t => (lk F t E).map fun v => (t, v) | _ => none) with
          | none => exact hs.symm
          | some v => exact (h1 v hl).2.symm
        · exact h2 hm
      | some u =>
        simp only [Option.map_some]
        refine ⟨fun v hv => ?_, fun hm => ?_⟩
        · rw [lk_cons] at hv
          by_cases e : s = t
          · subst e; rw [if_pos rfl] at hv; cases hv; exact ⟨by simp, hs⟩
          · rw [if_neg e] at hv; exact ⟨List.mem_cons_of_mem _ (h1 v hv).1, (h1 v hv).2⟩
        · rw [lk_cons]
          by_cases e : s = t
          · subst e; rw [if_pos rfl, hs]
          · rw [if_neg e]
            rcases List.mem_cons.1 hm with e' | hm
            · cases e'; exact absurd rfl e
            · exact h2 hm
    | _ =>
      simp only [List.filterMap_cons]
      refine ⟨fun v hv => ⟨List.mem_cons_of_mem _ (h1 v hv).1, (h1 v hv).2⟩, fun hm => ?_⟩
      rcases List.mem_cons.1 hm with e | hm
      · cases e
      · exact h2 hm
theorem evo_only {o : Oper} {x : Operand} (hx : x ∈ o.op.operands) : evo F E x = evo ⟨F.n, .leaf⟩ (only o F E) x := by
  cases x with
  | tmp t => exact ((lk_filter t _).2 (by simpa using hx)).symm
  | _ => rfl
theorem AR.only {o : Oper} (h : ∀ t, Operand.tmp t ∈ o.op.operands → ∀ v, lk F t E = some v → VR ρ μ v (a.tmps.getD t undef)) : AR ρ μ ⟨F.n, .leaf⟩ (only o F E) a := fun t v ht => by
  obtain ⟨h1, h2⟩ := (lk_filter t _).1 v ht
  exact h t (by simpa using h1) v h2
end
end Go.Abs
