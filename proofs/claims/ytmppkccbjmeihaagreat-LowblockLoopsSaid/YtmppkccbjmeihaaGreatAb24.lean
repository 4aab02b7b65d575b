/- Code, calls: sound. -/
import Derived.Test.YtmppkccbjmeihaaGreatAb23
namespace Go.Abs
set_option autoImplicit true
set_option relaxedAutoImplicit true
set_option linter.unusedVariables false
set_option linter.unusedSimpArgs false
set_option linter.unusedSectionVars false
open Go.RowKit

/-- Are the plans of this code's open regions right? -/
def codeOK (P : Program) (I : Info) : Code → Bool
  | .region id ops draw => bsel draw (match findPlan id I.plans with | some l => planOK P ops l | none => true) true
  | .seq a b => bsel (codeOK P I a) (codeOK P I b) false
  | .cond _ a b => bsel (codeOK P I a) (codeOK P I b) false
  | .block _ b => codeOK P I b
  | .loop b => codeOK P I b
  | _ => true

def toE : AExit → Exit
  | .normal => .normal
  | .exit id => .exit id
  | .ret => .ret

section
variable {P : Program} {ρ : Nat → Int} {C : Handler} {orc : SB → Option Bool} {I : Info}

/-- What a piece of code comes to. -/
def CodeRuns (P : Program) (ρ : Nat → Int) (I : Info) (n : Nat) (c : Code) (F : Fr) (S : St) (x : AExit) (F' : Fr) (S' : St) : Prop :=
  S.next ≤ S'.next ∧ (FK I.keep F → FK I.keep F' ∧ ∀ (μ : Mu) (a : Act) (w : World) (Q : Exit → Act → World → Prop), AI ρ μ F [] a → HR ρ μ S w → Fresh μ S S' →
    (∀ μ' a' w', AI ρ μ' F' [] a' → Step ρ μ S w μ' S' w' → Q (toE x) a' w') → c.wp P Q a w ∧ ∀ b, c = .loop b → Code.rounds P b Q n a w)

theorem evC_sound (hmix : P.follows .mixedOrders = true) (hC : HandlerOK P ρ C) (hor : ∀ c b, orc c = some b → c.den ρ = b) :
    ∀ (n : Nat) (c : Code) (F : Fr) (S : St) (x : AExit) (F' : Fr) (S' : St), codeOK P I c = true → evC C P orc I n c F S = some (x, F', S') → CodeRuns P ρ I n c F S x F' S' := by
  intro n
  induction n with
  | zero => intro c F S x F' S' _ h; cases h
  | succ n ih =>
    intro c F S x F' S' hok h
    cases c <;> first | (simp only [evC] at h; cases h; done) | skip
    case skip =>
      simp only [evC] at h
      cases h
      exact ⟨Nat.le_refl _, fun hk => ⟨hk, fun μ a w Q ha hm hf hK => ⟨wp_skip (hK μ a w ha (.refl hm)), fun b e => by cases e⟩⟩⟩
    case exit id =>
      simp only [evC] at h
      cases h
      exact ⟨Nat.le_refl _, fun hk => ⟨hk, fun μ a w Q ha hm hf hK => ⟨wp_exit (hK μ a w ha (.refl hm)), fun b e => by cases e⟩⟩⟩
    case ret =>
      simp only [evC] at h
      cases h
      exact ⟨Nat.le_refl _, fun hk => ⟨hk, fun μ a w Q ha hm hf hK => ⟨wp_ret (hK μ a w ha (.refl hm)), fun b e => by cases e⟩⟩⟩
    case region id ops draw =>
      simp only [evC] at h
      cases draw
      · simp only [bsel_false, oget_some] at h
        obtain ⟨⟨E1, S1⟩, h1, F1, h2, e⟩ := h
        cases e
        refine ⟨evOps_next hC hor h1, fun hk => ?_⟩
        refine ⟨(putAll_get hk h2).1, fun μ a w Q ha hm hf hK => ⟨wp_region ?_, fun b e => by cases e⟩⟩
        have := evOps_sound (Q := Q) hC hor ops.toList 0 rfl h1 ha hm hf fun μ' a' w' g1 g2 => hK μ' a' w' (g1.putAll hk h2).1 g2
        rw [List.range_eq_range']
        exact this
      · simp only [bsel_true, oget_some] at h
        obtain ⟨l, hl, ⟨E1, S1, Hs⟩, h1, F1, h2, e⟩ := h
        cases e
        simp only [codeOK, bsel_true, hl] at hok
        refine ⟨?_, fun hk => ?_⟩
        · obtain ⟨T, t1, t2, t3⟩ := draw_steps _ _ _ h1
          have R : Ran P ρ F C orc ops l _ T S := ⟨hC, hor, planOK_sound hok, t1, t3⟩
          have := R.nextLe (p := 0) (q := l.length) (by omega) (Nat.le_refl _)
          rw [t1, t2] at this
          exact this
        refine ⟨(putAll_get hk h2).1, fun μ a w Q ha hm hf hK => ⟨?_, fun b e => by cases e⟩⟩
        exact draw_sound hmix hC hor hok h1 ha hm hf fun μ' a' w' g1 g2 => hK μ' a' w' (g1.putAll hk h2).1 g2
    case seq a b =>
      simp only [evC, oget_some] at h
      obtain ⟨⟨x1, F1, S1⟩, h1, h⟩ := h
      simp only [codeOK] at hok
      obtain ⟨ok1, ok2⟩ := bsel_false' hok
      obtain ⟨n1, k1⟩ := ih a F S x1 F1 S1 ok1 h1
      cases x1
      case normal =>
        obtain ⟨n2, k2⟩ := ih b F1 S1 x F' S' ok2 h
        refine ⟨Nat.le_trans n1 n2, fun hk => ?_⟩
        obtain ⟨hk1, k1⟩ := k1 hk
        obtain ⟨hk2, k2⟩ := k2 hk1
        refine ⟨hk2, fun μ ac w Q ha hm hf hK => ⟨wp_seq (k1 μ ac w _ ha hm (hf.left n1 n2) fun μ' a' w' g1 g2 => ?_).1, fun b e => by cases e⟩⟩
        exact (k2 μ' a' w' Q g1 g2.hr (hf.right g2) fun μ'' a'' w'' g3 g4 => hK _ _ _ g3 (g2.trans g4)).1
      all_goals
        cases h
        refine ⟨n1, fun hk => ?_⟩
        obtain ⟨hk1, k1⟩ := k1 hk
        exact ⟨hk1, fun μ ac w Q ha hm hf hK => ⟨wp_seq (k1 μ ac w (Exit.then (b.wp P Q) Q) ha hm hf fun μ' a' w' g1 g2 => hK _ _ _ g1 g2).1, fun b e => by cases e⟩⟩
    case cond cx a b =>
      simp only [evC, oget_some] at h
      obtain ⟨v, hv, t, ht, h⟩ := h
      simp only [codeOK] at hok
      obtain ⟨ok1, ok2⟩ := bsel_false' hok
      cases t
      · obtain ⟨n2, k2⟩ := ih b F S x F' S' ok2 h
        refine ⟨n2, fun hk => ?_⟩
        obtain ⟨hk2, k2⟩ := k2 hk
        refine ⟨hk2, fun μ ac w Q ha hm hf hK => ⟨wp_cond_false (truth_sound hor ht (evo_sound hv ha.ar)) (k2 μ ac w Q ha hm hf hK).1, fun b e => by cases e⟩⟩
      · obtain ⟨n2, k2⟩ := ih a F S x F' S' ok1 h
        refine ⟨n2, fun hk => ?_⟩
        obtain ⟨hk2, k2⟩ := k2 hk
        refine ⟨hk2, fun μ ac w Q ha hm hf hK => ⟨wp_cond_true (truth_sound hor ht (evo_sound hv ha.ar)) (k2 μ ac w Q ha hm hf hK).1, fun b e => by cases e⟩⟩
    case block id b =>
      simp only [evC, oget_some] at h
      obtain ⟨⟨x1, F1, S1⟩, h1, h⟩ := h
      simp only [codeOK] at hok
      obtain ⟨n1, k1⟩ := ih b F S x1 F1 S1 hok h1
      have key : ∀ {x2 : AExit}, (x2, F1, S1) = (x, F', S') → (∀ (Q : Exit → Act → World → Prop) a w, Q (toE x2) a w → Exit.inBlock id Q (toE x1) a w) → CodeRuns P ρ I (n + 1) (.block id b) F S x F' S' := fun {x2} e hq => by
        cases e
        refine ⟨n1, fun hk => ?_⟩
        obtain ⟨hk1, k1⟩ := k1 hk
        exact ⟨hk1, fun μ ac w Q ha hm hf hK => ⟨wp_block (k1 μ ac w _ ha hm hf fun μ' a' w' g1 g2 => hq Q a' w' (hK _ _ _ g1 g2)).1, fun b e => by cases e⟩⟩
      cases x1
      case exit id' =>
        simp only at h
        rw [bsel_eq] at h
        split at h
        · rename_i hid
          have hid := Nat.eq_of_beq_eq_true hid
          refine key (Option.some.inj h) fun Q a w hq => ?_
          show if id' = id then Q .normal a w else Q (.exit id') a w
          rw [if_pos hid]; exact hq
        · rename_i hid
          have hid : ¬ id' = id := fun e => hid (by subst e; exact Nat.beq_refl _)
          refine key (Option.some.inj h) fun Q a w hq => ?_
          show if id' = id then Q .normal a w else Q (.exit id') a w
          rw [if_neg hid]; exact hq
      all_goals exact key (Option.some.inj h) fun Q a w hq => hq
    case loop b =>
      simp only [evC, oget_some] at h
      obtain ⟨⟨x1, F1, S1⟩, h1, h⟩ := h
      have hok' := hok
      simp only [codeOK] at hok
      obtain ⟨n1, k1⟩ := ih b F S x1 F1 S1 hok h1
      have fin : S.next ≤ S'.next → (FK I.keep F → FK I.keep F' ∧ ∀ (μ : Mu) (a : Act) (w : World) (Q : Exit → Act → World → Prop), AI ρ μ F [] a → HR ρ μ S w → Fresh μ S S' →
          (∀ μ' a' w', AI ρ μ' F' [] a' → Step ρ μ S w μ' S' w' → Q (toE x) a' w') → Code.rounds P b Q (n + 1) a w) → CodeRuns P ρ I (n + 1) (.loop b) F S x F' S' := fun hn hh =>
        ⟨hn, fun hk => ⟨(hh hk).1, fun μ a w Q ha hm hf hK => ⟨wp_loop_rounds (n + 1) ((hh hk).2 μ a w Q ha hm hf hK), fun b' e => by cases e; exact (hh hk).2 μ a w Q ha hm hf hK⟩⟩⟩
      cases x1
      case normal =>
        obtain ⟨n2, k2⟩ := ih (.loop b) F1 S1 x F' S' hok' h
        refine fin (Nat.le_trans n1 n2) fun hk => ?_
        obtain ⟨hk1, k1⟩ := k1 hk
        obtain ⟨hk2, k2⟩ := k2 hk1
        refine ⟨hk2, fun μ ac w Q ha hm hf hK => ?_⟩
        rw [rounds_succ]
        refine (k1 μ ac w _ ha hm (hf.left n1 n2) fun μ' a' w' g1 g2 => ?_).1
        exact (k2 μ' a' w' Q g1 g2.hr (hf.right g2) fun μ'' a'' w'' g3 g4 => hK _ _ _ g3 (g2.trans g4)).2 b rfl
      all_goals
        cases h
        refine fin n1 fun hk => ?_
        obtain ⟨hk1, k1⟩ := k1 hk
        refine ⟨hk1, fun μ ac w Q ha hm hf hK => ?_⟩
        rw [rounds_succ]
        exact (k1 μ ac w (Exit.then (Code.rounds P b Q n) Q) ha hm hf fun μ' a' w' g1 g2 => hK _ _ _ g1 g2).1

/-! #### calls -/
/-- What must be known of a function. -/
structure FunOK (P : Program) (f : FuncId) (A : AFun) : Prop where
  fn : P.funcs[f]? = some A.fn
  code : (match A.fn.body with | some c => codeOK P A.info c | none => true) = true
  enter : ∀ args w, (callFunc f args).run P w = .ok (.enter f args) w

/-- A result variable, read. -/
def resM (tmps : Array Value) : ResultVar → Sem Value
  | .tmp t => pure (tmps.getD t undef)
  | .cell a t => do loadVar t (← asAddr (tmps.getD a undef))
theorem resOne_sound {μ : Mu} {F : Fr} {S : St} {a : Act} {w : World} {r : ResultVar} {v : AVal} (h : resOne P F S r = some v) (ha : AI ρ μ F [] a) (hm : HR ρ μ S w) :
    ∃ x, VR ρ μ v x ∧ (resM a.tmps r).run P w = .ok x w := by
  cases r with
  | tmp t => exact ⟨_, ha.ar t v h, rfl⟩
  | cell c T =>
    simp only [resOne] at h
    rw [oget_some] at h
    obtain ⟨u, hu, h⟩ := h
    rw [oget_some] at h
    obtain ⟨z, hz, h⟩ := h
    have g := ha.ar c u hu
    split at h
    · rename_i b i
      show ∃ x, VR ρ μ v x ∧ (do loadVar T (← asAddr (a.tmps.getD c undef)) : Sem Value).run P w = .ok x w
      generalize a.tmps.getD c undef = X at g
      cases g with
      | ptr _ _ m hm' =>
        split at h
        · obtain ⟨y, hy, hv⟩ := load_sound hm h hm'
          refine ⟨y, hv, ?_⟩
          rcases aggSize_eq hz with ⟨n', i', e2, _⟩ | ⟨_, hag⟩
          · cases e2
          · simp [asAddr, run_loadVar1 (hag w) hy]
        · rename_i n
          simp only [oget_some] at h
          obtain ⟨l, hl, e⟩ := h
          cases e
          obtain ⟨hlen, r, hr, hrl, hc⟩ := loads_sound hm hl hm'
          refine ⟨_, .agg _ _ hr, ?_⟩
          rcases aggSize_eq hz with ⟨n', i', e2, hi, hsz, hag⟩ | ⟨e2, _⟩
          · cases e2
            have := run_loadVarN (P := P) (t := T) (A := ⟨m.blk, m.off + i, none⟩) (r := r) (hag w) hi (by omega) (fun j y hy => by rw [add_lit]; exact hc j y hy)
            simp [asAddr, this]
          · cases e2
    · cases h
theorem resAll_sound {μ : Mu} {F : Fr} {S : St} {a : Act} {w : World} : ∀ {l : List ResultVar} {vs : List AVal}, resAll P F S l = some vs → AI ρ μ F [] a → HR ρ μ S w →
    ∃ xs, VRs ρ μ vs xs ∧ (l.mapM (resM a.tmps)).run P w = .ok xs w
  | [], vs, h, ha, hm => by cases h; exact ⟨[], .nil, by simp⟩
  | r :: l, vs, h, ha, hm => by
    simp only [resAll, oget_some] at h
    obtain ⟨v, hv, vs', hvs, e⟩ := h
    cases e
    obtain ⟨x, hx, h1⟩ := resOne_sound hv ha hm
    obtain ⟨xs, hxs, h2⟩ := resAll_sound hvs ha hm
    refine ⟨x :: xs, .cons _ _ _ _ hx hxs, ?_⟩
    rw [List.mapM_cons]
    simp only [Sem.run_bind, h1, h2, Result.andThen_ok, Sem.run_pure]
theorem results_sound {μ : Mu} {F : Fr} {S : St} {a : Act} {w : World} {fn : Func} {vs : List AVal} (h : resAll P F S fn.results.toList = some vs) (ha : AI ρ μ F [] a) (hm : HR ρ μ S w) :
    ∃ x, VR ρ μ (oneOr vs) x ∧ (results fn a.tmps).run P w = .ok x w := by
  obtain ⟨xs, hxs, hr⟩ := resAll_sound h ha hm
  have e : (results fn a.tmps).run P w = .ok (if h : xs.toArray.size = 1 then xs.toArray[0] else .tuple xs.toArray) w := by
    show (do let vs ← fn.results.mapM (resM a.tmps); pure (if h : vs.size = 1 then vs[0] else .tuple vs) : Sem Value).run P w = _
    have e0 : fn.results.mapM (resM a.tmps) = (do pure (← fn.results.toList.mapM (resM a.tmps)).toArray : Sem (Array Value)) := by
      rw [Array.mapM_eq_mapM_toList]; rfl
    rw [e0]
    simp only [Sem.run_bind, hr, Result.andThen_ok, Sem.run_pure]
  rw [e]
  cases hxs with
  | nil => exact ⟨_, .tuple [] [] .nil, rfl⟩
  | cons v x l r h1 hs =>
    cases hs with
    | nil => exact ⟨x, h1, rfl⟩
    | cons v2 x2 l2 r2 h2 hs2 => exact ⟨_, .tuple _ _ (.cons _ _ _ _ h1 (.cons _ _ _ _ h2 hs2)), rfl⟩
end
end Go.Abs
