/- Rows of code, one behind the other; memories of which a part alone is kept. -/
import Derived.Test.YtmppkccbjmeihaaGreatQo
namespace Go.Abs
set_option autoImplicit true
set_option relaxedAutoImplicit true
set_option linter.unusedVariables false
set_option linter.unusedSimpArgs false
set_option linter.unusedSectionVars false
open Go.RowKit

/-- Code that begins with these. -/
def seqs : List Code → Code → Code
  | [], c => c
  | a :: l, c => .seq a (seqs l c)
noncomputable def exSeq (l : List QC) (c : Cx) (n kp fu : Nat) (t : Tr AVal) (S : St) : RC :=
  @List.rec QC (fun _ => Tr AVal → St → RC) (fun t S => .nor t S) (fun q _ ih t S => @RC.rec (fun _ => RC) .no (fun t S => ih t S) (fun _ _ _ => .no) (fun _ _ => .no) (exC q c n kp fu t S)) l t S

/-- What a row of code comes to. -/
def SeqRuns (P : Program) (ρ : Nat → Int) (I : Info) (l : List Code) (F : Fr) (S : St) (F' : Fr) (S' : St) : Prop :=
  S.next ≤ S'.next ∧ (FK I.keep F → FK I.keep F' ∧ ∀ (last : Code) (μ : Mu) (a : Act) (w : World) (Q : Exit → Act → World → Prop), AI ρ μ F [] a → HR ρ μ S w → Fresh μ S S' →
    (∀ μ' a' w', AI ρ μ' F' [] a' → Step ρ μ S w μ' S' w' → last.wp P Q a' w') → (seqs l last).wp P Q a w)

section
variable {P : Program} {ρ : Nat → Int} {orc : SB → Option Bool}
theorem exSeq_runs (hmix : P.follows .mixedOrders = true) (I : Info) (c : Cx) (hP : c.P = P) (hC : HandlerOK P ρ c.H) (hor : ∀ b x, c.orc b = some x → b.den ρ = x) (n fu : Nat) : ∀ (l : List Code) (t : Tr AVal) (S : St) (t' : Tr AVal) (S' : St),
    (∀ x, x ∈ l → codeOK P I x = true) → exSeq (l.map (compC P I)) c n I.keep fu t S = .nor t' S' → SeqRuns P ρ I l ⟨n, t⟩ S ⟨n, t'⟩ S'
  | [], t, S, t', S', _, h => by
    cases (show RC.nor t S = _ from h)
    exact ⟨Nat.le_refl _, fun hk => ⟨hk, fun last μ a w Q ha hm hf hK => hK μ a w ha (.refl hm)⟩⟩
  | x :: l, t, S, t', S', hok, h => by
    have h : @RC.rec (fun _ => RC) .no (fun t S => exSeq (l.map (compC P I)) c n I.keep fu t S) (fun _ _ _ => .no) (fun _ _ => .no) (exC (compC P I x) c n I.keep fu t S) = .nor t' S' := h
    cases hr : exC (compC P I x) c n I.keep fu t S with
    | no => rw [hr] at h; cases (show RC.no = _ from h)
    | ex id t1 S1 => rw [hr] at h; cases (show RC.no = _ from h)
    | ret t1 S1 => rw [hr] at h; cases (show RC.no = _ from h)
    | nor t1 S1 =>
      rw [hr] at h
      obtain ⟨n2, g2⟩ := exSeq_runs hmix I c hP hC hor n fu l t1 S1 t' S' (fun y hy => hok y (List.mem_cons_of_mem _ hy)) h
      obtain ⟨m, hm⟩ := exC_sound (P := P) I c n fu hP x t S (.normal, ⟨n, t1⟩, S1) (by rw [hr]; rfl)
      obtain ⟨n1, g1⟩ := evC_sound hmix hC hor m x _ _ _ _ _ (hok x (List.mem_cons_self ..)) (hm m (Nat.le_refl _))
      refine ⟨Nat.le_trans n1 n2, fun hk => ?_⟩
      obtain ⟨k1, g1⟩ := g1 hk
      obtain ⟨k2, g2⟩ := g2 k1
      refine ⟨k2, fun last μ a w Q ha hm hf hK => ?_⟩
      refine wp_seq (g1 μ a w _ ha hm (hf.left n1 n2) fun μ1 a1 w1 h1 s1 => ?_).1
      exact g2 last μ1 a1 w1 Q h1 s1.hr (hf.right s1) fun μ2 a2 w2 h2 s2 => hK μ2 a2 w2 h2 (s1.trans s2)

/-! #### a part of a memory -/
noncomputable def pruneT (ids : List Nat) (H : Tr ABlk) : Tr ABlk :=
  @List.rec Nat (fun _ => Tr ABlk) .leaf (fun b _ ih => @Option.rec ABlk (fun _ => Tr ABlk) ih (fun B => setB ih b B) (getB H b)) ids
noncomputable def prune (ids : List Nat) (S : St) : St := @St.rec (fun _ => St) (fun h n => ⟨pruneT ids h, n⟩) S
theorem pruneT_get (H : Tr ABlk) : ∀ (ids : List Nat) (b : Nat) (B : ABlk), (pruneT ids H).get b = some B → H.get b = some B
  | [], b, B, h => by rw [show (pruneT [] H).get b = none from Tr.get_leaf b] at h; cases h
  | i :: l, b, B, h => by
    have e : pruneT (i :: l) H = @Option.rec ABlk (fun _ => Tr ABlk) (pruneT l H) (fun B => setB (pruneT l H) i B) (getB H i) := rfl
    rw [e, getB_eq] at h
    cases hi : H.get i with
    | none => rw [hi] at h; exact pruneT_get H l b B h
    | some C =>
      rw [hi] at h
      have h2 : (setB (pruneT l H) i C).get b = some B := h
      clear h
      rw [setB_eq, Tr.get_set] at h2
      split at h2
      · rename_i e1; subst e1; rw [hi]; exact h2
      · exact pruneT_get H l b B h2
theorem prune_blk {ids : List Nat} {S : St} {b : Nat} {B : ABlk} (h : (prune ids S).blk b = some B) : S.blk b = some B := by
  obtain ⟨H, n⟩ := S
  exact pruneT_get H ids b B h
theorem prune_next (ids : List Nat) (S : St) : (prune ids S).next = S.next := by obtain ⟨H, n⟩ := S; rfl
theorem prune_owns {ids : List Nat} {S : St} {μ : Mu} {b : Nat} {m : Loc} (h : Owns (prune ids S) μ b m) : Owns S μ b m := ⟨h.1, h.2.choose, prune_blk h.2.choose_spec.1, h.2.choose_spec.2⟩
theorem HR.prune {μ : Mu} {S : St} {w : World} (h : HR ρ μ S w) (ids : List Nat) : HR ρ μ (prune ids S) w where
  cells := fun b n d t m hb hm => h.cells b n d t m (prune_blk hb) hm
  maps := fun b es cl m hb hm => h.maps b es cl m (prune_blk hb) hm
  inj := fun b b' m m' h1 h2 => h.inj b b' m m' (prune_owns h1) (prune_owns h2)
  wf := fun b hb => by
    cases hc : (Go.Abs.prune ids S).blk b with
    | none => rfl
    | some B =>
      rw [prune_next] at hb
      have := h.wf b hb
      rw [prune_blk hc] at this
      cases this
theorem Step.prune {μ μ' : Mu} {S S' : St} {w w' : World} (h : Step ρ μ S w μ' S' w') (ids : List Nat) : Step ρ μ S w μ' (prune ids S') w' where
  hr := h.hr.prune ids
  next := by rw [prune_next]; exact h.next
  ext := fun b hb => h.ext b (by rw [prune_next] at hb; exact hb)
  mono := h.mono
  size := h.size
  frame := h.frame
  own := fun k hk => h.own k (by obtain ⟨b, m, ho, e⟩ := hk; exact ⟨b, m, prune_owns ho, e⟩)
  os := h.os
  tape := h.tape
  output := h.output
/-- A row that was run, the part that is kept of its memory. -/
noncomputable def segR (ids : List Nat) (r : RC) : Option (Tr AVal × St) := @RC.rec (fun _ => Option (Tr AVal × St)) none (fun t S => some (t, prune ids S)) (fun _ _ _ => none) (fun _ _ => none) r
theorem segR_ok {ids : List Nat} {r : RC} {t : Tr AVal} {S : St} (h : segR ids r = some (t, S)) : ∃ S', r = .nor t S' ∧ prune ids S' = S := by
  cases r with
  | nor t1 S1 => cases (show some (t1, prune ids S1) = _ from h); exact ⟨S1, rfl, rfl⟩
  | _ => cases (show (none : Option (Tr AVal × St)) = _ from h)
theorem seg_runs (hmix : P.follows .mixedOrders = true) (I : Info) (c : Cx) (hP : c.P = P) (hC : HandlerOK P ρ c.H) (hor : ∀ b x, c.orc b = some x → b.den ρ = x) (n fu : Nat) {l : List Code} {t : Tr AVal} {S : St} {t' : Tr AVal} {S' : St} {ids : List Nat}
    (hok : ∀ x, x ∈ l → codeOK P I x = true) (h : segR ids (exSeq (l.map (compC P I)) c n I.keep fu t S) = some (t', S')) : SeqRuns P ρ I l ⟨n, t⟩ S ⟨n, t'⟩ S' := by
  obtain ⟨S1, h1, rfl⟩ := segR_ok h
  obtain ⟨n1, g1⟩ := exSeq_runs hmix I c hP hC hor n fu l t S t' S1 hok h1
  refine ⟨by rw [prune_next]; exact n1, fun hk => ?_⟩
  obtain ⟨k1, g1⟩ := g1 hk
  refine ⟨k1, fun last μ a w Q ha hm hf hK => g1 last μ a w Q ha hm (fun b hb hb' => hf b hb (by rw [prune_next]; exact hb')) fun μ' a' w' h2 s2 => hK μ' a' w' h2 (s2.prune ids)⟩
theorem seqs_append : ∀ (l r : List Code) (last : Code), seqs (l ++ r) last = seqs l (seqs r last)
  | [], _, _ => rfl
  | a :: l, r, last => by show Code.seq a (seqs (l ++ r) last) = _; rw [seqs_append l r last]; rfl
theorem SeqRuns.trans {I : Info} {l r : List Code} {F F1 F2 : Fr} {S S1 S2 : St} (h1 : SeqRuns P ρ I l F S F1 S1) (h2 : SeqRuns P ρ I r F1 S1 F2 S2) : SeqRuns P ρ I (l ++ r) F S F2 S2 := by
  obtain ⟨n1, g1⟩ := h1
  obtain ⟨n2, g2⟩ := h2
  refine ⟨Nat.le_trans n1 n2, fun hk => ?_⟩
  obtain ⟨k1, g1⟩ := g1 hk
  obtain ⟨k2, g2⟩ := g2 k1
  refine ⟨k2, fun last μ a w Q ha hm hf hK => ?_⟩
  rw [seqs_append]
  exact g1 (seqs r last) μ a w Q ha hm (hf.left n1 n2) fun μ1 a1 w1 e1 s1 => g2 last μ1 a1 w1 Q e1 s1.hr (hf.right s1) fun μ2 a2 w2 e2 s2 => hK μ2 a2 w2 e2 (s1.trans s2)
theorem known_kept {keep n d : Nat} {t : Tr AVal} {u x : AVal} (h : FK keep ⟨n, t⟩) (hd : t.get d = some u) : FK keep ⟨n, t.set d x⟩ := fun s v hv => by
  have hv2 : (t.set d x).get s = some v := hv
  rw [Tr.get_set] at hv2
  split at hv2
  · rename_i e1; subst e1; exact h d u hd
  · exact h s v hv2
end
end Go.Abs
