/-
  LowblockLoops: for every pair of numbers and every count, the law returns true; the arguments read behind the call as before. No condition.
  The law's code is run by an evaluator of the model's code on a memory of its own (proved sound: texts Ab1 to Ab26, Qe1 to Qe5, Qo, Qs); the numbers stay unknown; up to the call of the machine the run is one, in four parts; from there on it parts by the count's remainder.
-/
import Derived.Test.YtmppkccbjmeihaaGreatRows
import Derived.Test.YtmppkccbjmeihaaGreatKnown
import Derived.Test.YtmppkccbjmeihaaGreatR0
import Derived.Test.YtmppkccbjmeihaaGreatR3
import Derived.Test.YtmppkccbjmeihaaGreatR5
import Derived.Test.YtmppkccbjmeihaaGreatR7
import Derived.Test.YtmppkccbjmeihaaGreatR8
import Derived.Test.YtmppkccbjmeihaaGreatR9
import Derived.Test.YtmppkccbjmeihaaGreatRa
import Derived.Test.YtmppkccbjmeihaaGreatRb
import Derived.WalkKit
import Derived.ProofKit
import Derived.OpenShut
namespace Go.Proofs.YtmppkccbjmeihaaGreat.lowblockLoops
set_option autoImplicit true
set_option relaxedAutoImplicit true
set_option linter.unusedVariables false
set_option linter.unusedSimpArgs false
set_option linter.unusedSectionVars false
open Go.ChangeShapes Go.WideShapes Go.ChangeAt Go.RowKit Go.Abs Go.Proofs.Le

theorem own : ownKnob Tryz.prog.godebug = none := by kernel_rfl

/-! ### what stays as it was -/
/-- At most new blocks. -/
structure Same (w w' : World) : Prop where
  os : w'.os = w.os
  output : w'.output = w.output
  size : w.heap.size ≤ w'.heap.size
  heap : ∀ k, k < w.heap.size → w'.heap[k]? = w.heap[k]?
theorem Same.kept {w w' : World} (h : Same w w') (may : MemPlace → Prop) : w.keptBut w' may := by
  refine ⟨h.os, h.output, fun i hi => ?_⟩
  rw [h.heap i hi]
  cases w.heap[i]? with
  | none => trivial
  | some o => cases o <;> first | exact ⟨rfl, rfl, rfl, fun _ _ => rfl⟩ | exact .inr ⟨rfl, rfl⟩ | trivial
theorem Same.frozen {w w' : World} (h : Same w w') (a : Addr) (ha : a.block < w.heap.size) : w'.frozen? a = w.frozen? a := by
  simp only [World.frozen?, h.heap a.block ha]
theorem post_of_old {H : Type} {enc : TypeId × Value → H} {P : Program} {f : Func} {s : ChangeSpec} {apart fresh handsOn again : Bool} {W W' : World} {args : Array Value} {v : Value} {ds gs : List (DataW H)} {before pa pv : List MemPlace}
    (hW : DataW.Whole enc P f.params.toList s.vars apart W args.toList ds gs before)
    (hres : ∀ (b : Nat) (sp : Nat → Bool) (hd : Bool), DataW.TrodAll enc P W' b sp hd f.resultTypes.toList (v.resultList f.resultTypes.size) (s.fn H (ds ++ gs)).results [])
    (hargs : ∀ sp : Nat → Bool, (∀ p ∈ before, sp p.block = true) → DataW.TrodAll enc P W' 0 sp true f.params.toList args.toList (s.fn H (ds ++ gs)).args pa)
    (hvars : ∀ sp : Nat → Bool, (∀ p ∈ before, sp p.block = true) → DataW.TrodVars enc P W' sp s.vars (s.fn H (ds ++ gs)).vars pv)
    (hps : before = pa ++ pv) (hs : Same W W')
    (hok : ∀ (j : Nat) (t : TypeId) (r : Value), f.resultTypes[j]? = some t → (v.resultList f.resultTypes.size)[j]? = some r → Value.okWide P W' .any 0 t r) :
    s.post enc P f apart fresh handsOn again W args v W' := by
  have hold : ∀ p ∈ before, (fun b => decide (b < W.heap.size)) p.block = true := fun p hp => by simpa using hW.lt p hp
  have hlt := hW.lt
  refine ⟨ds, gs, before, [], pa, pv, hW, hres _ _ _, hargs _ hold, hvars _ hold, World.keptBut_mono (fun p hp => ⟨hp, ?_⟩) (hs.kept (· ∈ before)), fun _ => ?_⟩
  · rw [hps, List.mem_append] at hp
    exact Or.inr hp
  · obtain ⟨_, _, _, _, _, hz, hn⟩ := hW
    refine ⟨hok, _, _, ([] ++ pa) ++ pv, ⟨[] ++ pa, pv, trodAll_append (hargs _ (fun _ _ => rfl)) (hres _ _ _), hvars _ (fun _ _ => rfl), rfl, ?_, ?_⟩, ?_⟩
    · intro b off hp
      have hb : MemPlace.cell b off ∈ before := by rw [hps]; simpa using hp
      rw [hs.frozen _ (by have := hlt _ hb; exact this)]
      exact hz b off hb
    · intro ha
      have := hn ha
      rw [hps] at this
      simpa using this
    · intro p hp _
      rw [hps]
      simpa using hp

/-! ### the run -/
theorem isR_ok {r : RC} (h : isR r = true) : ∃ t S, r = .ret t S ∧ t.get 6 = some (.bool true) := by
  cases r with
  | ret t S =>
    refine ⟨t, S, rfl, ?_⟩
    have h : (match getA t 6 with | some (.bool b) => b | _ => false) = true := h
    rw [getA_eq] at h
    split at h
    · rename_i b hb; subst h; exact hb
    · cases h
  | _ => cases h

def rho (a b n : Int) : Nat → Int := fun i => match i with | 0 => a | 1 => b | _ => n

theorem hD0 (ρ : Nat → Int) : ∀ q, q ∈ D0 → q.1.den ρ = q.2 := by
  intro q hq
  simp only [D0, List.mem_cons, List.not_mem_nil, or_false] at hq
  rcases hq with rfl | rfl
  · show (ρ 0 == ρ 0) = true; simp
  · show (ρ 1 == ρ 1) = true; simp
theorem part {ρ : Nat → Int} {l : List Code} {t t' : Tr AVal} {S S' : St} {ids : List Nat} (hok : ∀ x, x ∈ l → codeOK Tryz.prog a3.info x = true) (h : segR ids (seg l t S) = some (t', S')) : SeqRuns Tryz.prog ρ a3.info l ⟨120, t⟩ S ⟨120, t'⟩ S' := by
  have hnil : ∀ q, q ∈ ([] : List (SB × Bool)) → q.1.den ρ = q.2 := fun q hq => by cases hq
  have hH : HandlerOK Tryz.prog ρ (cx []).H := callQ_sound mix (base_ok hnil) (told_sound hnil) TQ_ok 100000 60
  exact seg_runs mix a3.info (cx []) rfl hH (told_sound hnil) 120 100000 hok h

theorem core (a b n : Int) (w : World) (k : Int) (hk : ek.den (rho a b n) = k) (hrun : isR (restR k) = true) :
    Calls Tryz.prog 3 #[.int .u64 a, .int .u64 b, .int .u32 n] w fun e w' => e = .returned (.bool true) ∧ Same w w' := by
  obtain ⟨tz, Sz, hz, h4⟩ := isR_ok hrun
  have hz' : exC (compC Tryz.prog a3.info restC) (cx D0) 120 a3.info.keep 100000 (tD.set 7 (.int .u32 k)) SD = .ret tz Sz := by rw [← setA_eq]; exact hz
  obtain ⟨m, hm⟩ := exC_sound (P := Tryz.prog) a3.info (cx D0) 120 100000 rfl restC (tD.set 7 (.int .u32 k)) SD (.ret, ⟨120, tz⟩, Sz) (by rw [hz']; rfl)
  have hH : HandlerOK Tryz.prog (rho a b n) (cx D0).H := callQ_sound mix (base_ok (hD0 _)) (told_sound (hD0 _)) TQ_ok 100000 60
  obtain ⟨n3, c3⟩ := evC_sound mix hH (told_sound (hD0 _)) m restC _ _ _ _ _ codeZ_ok (hm m (Nat.le_refl _))
  obtain ⟨nD, cD⟩ := (((part (ρ := rho a b n) lA_ok segA_eq).trans (part lB_ok segB_eq)).trans (part lC_ok segC_eq)).trans (part lD_ok segD_eq)
  obtain ⟨hfk, hai⟩ := AI.init (ρ := rho a b n) (keep := a3.info.keep) (n := 120) (μ := fun _ => none) (args := [.sym .u64 (.var 0), .sym .u64 (.var 1), .sym .u32 (.var 2)]) (vs := [.int .u64 a, .int .u64 b, .int .u32 n])
    (.cons _ _ _ _ (.sym .u64 (.var 0)) (.cons _ _ _ _ (.sym .u64 (.var 1)) (.cons _ _ _ _ (.sym .u32 (.var 2)) .nil))) (Nat.le_of_ble_eq_true rfl)
  obtain ⟨kD, cD⟩ := cD hfk
  obtain ⟨k3, c3⟩ := c3 (known_kept kD tD_k)
  refine calls_of_wp Tryz.func3 body_eq ?_
  rw [← seqs_append, ← seqs_append, ← seqs_append]
  refine cD restC (fun _ => none) _ w _ hai (HR.empty w) (fun _ _ _ => rfl) fun μ1 b1 w1 g1 s1 => ?_
  refine (c3 μ1 _ w1 _ (g1.known tD_k hk) s1.hr (fun b hb hb' => ?_) fun μ3 b3 w3 g3 s3 => ?_).1
  · rw [s1.ext b (.inr hb)]
  · have st := s1.trans s3
    obtain ⟨y, hyr, hy⟩ := results_sound (P := Tryz.prog) (fn := Tryz.f3) (vs := [.bool true]) (by
      show (oget (tz.get 6) fun v => oget (some []) fun l => some (v :: l)) = _
      rw [h4]; rfl) g3 s3.hr
    have hyr : VR (rho a b n) μ3 (.bool true) y := hyr
    cases hyr
    exact ⟨g3.defers, _, hy, rfl, st.os, st.output, st.size, st.grown empty_owned⟩

theorem walk (a0 : Int) (a1 : Int) (a2 : Int) (w0 : (Lit.int .u64 a0).wf = true) (w1 : (Lit.int .u64 a1).wf = true) (w2 : (Lit.int .u32 a2).wf = true) (w : World) :
    Calls Tryz.prog 3 #[.int .u64 a0, .int .u64 a1, .int .u32 a2] w fun e w' => e = .returned (.bool true) ∧ Same w w' := by
  have hw : 0 ≤ a2 ∧ a2 < 4294967296 := by
    simp [Lit.wf, IntKind.min, IntKind.max, IntKind.signed, IntKind.bits] at w2
    omega
  have he : ek.den (rho a0 a1 a2) = a2 % 12 := by
    show a2.tmod 12 = _
    exact Int.tmod_eq_emod_of_nonneg hw.1
  have hk : a2 % 12 = 0 ∨ a2 % 12 = 1 ∨ a2 % 12 = 2 ∨ a2 % 12 = 3 ∨ a2 % 12 = 4 ∨ a2 % 12 = 5 ∨ a2 % 12 = 6 ∨ a2 % 12 = 7 ∨ a2 % 12 = 8 ∨ a2 % 12 = 9 ∨ a2 % 12 = 10 ∨ a2 % 12 = 11 := by omega
  rcases hk with hk | hk | hk | hk | hk | hk | hk | hk | hk | hk | hk | hk
  · exact core a0 a1 a2 w 0 (he.trans hk) run0
  · exact core a0 a1 a2 w 1 (he.trans hk) run1
  · exact core a0 a1 a2 w 2 (he.trans hk) run2
  · exact core a0 a1 a2 w 3 (he.trans hk) run3
  · exact core a0 a1 a2 w 4 (he.trans hk) run4
  · exact core a0 a1 a2 w 5 (he.trans hk) run5
  · exact core a0 a1 a2 w 6 (he.trans hk) run6
  · exact core a0 a1 a2 w 7 (he.trans hk) run7
  · exact core a0 a1 a2 w 8 (he.trans hk) run8
  · exact core a0 a1 a2 w 9 (he.trans hk) run9
  · exact core a0 a1 a2 w 10 (he.trans hk) run10
  · exact core a0 a1 a2 w 11 (he.trans hk) run11

/-! ### THE ROW's STEP: WRITTEN OUT: LEAVE IT -/
set_option maxRecDepth 100000 in
theorem lifted (os : Os) (started : os.Started) (H : Type) (enc : TypeId × Value → H) :
    ReturnsInHanded {} Tryz.checked os 3 .any (Rows.lowblockLoopsSpec.pre6 enc Tryz.prog Tryz.f3 Rows.lowblockLoopsRow.domain false) (Rows.lowblockLoopsSpec.post enc Tryz.prog Tryz.f3 false true false false) := by
  refine returnsInHanded_of_change (C := Tryz.checked) own started (by kernel_rfl) Tryz.func3
    (ChangeSpec.witness6 (enc := enc) (C := Tryz.checked) false ⟨#[], #[.int .u64 0, .int .u64 0, .int .u32 0], []⟩ 8 (by kernel_rfl) (by kernel_rfl) (by kernel_rfl) (by kernel_rfl)) ?_
  intro W base args ds gs before hval0 hW hcnd _
  have hval : ∀ (j : Nat) t v, Tryz.f3.params[j]? = some t → args[j]? = some v → Value.okWide Tryz.prog W .any base t v := hval0
  have hW' := hW
  obtain ⟨p, q, hA0, hV, rfl, hfz, hnd⟩ := hW
  have hA : DataW.TrodAll enc Tryz.prog W 0 (fun _ => true) true Tryz.f3.params.toList args.toList ds p := hA0
  rw [Tryz.params3] at hA hval
  obtain ⟨v0, vs0, d0, ds0, p0, q0, hargs, rfl, rfl, h0, r0⟩ := trodAll_cons hA
  obtain ⟨v1, vs1, d1, ds1, p1, q1, rfl, rfl, rfl, h1, r1⟩ := trodAll_cons r0
  obtain ⟨v2, vs2, d2, ds2, p2, q2, rfl, rfl, rfl, h2, r2⟩ := trodAll_cons r1
  obtain ⟨rfl, rfl, rfl⟩ := trodAll_nil r2
  obtain rfl : args = #[v0, v1, v2] := by cases args; simp_all
  obtain ⟨rfl, rfl⟩ := trodVars_none hV
  obtain ⟨a0, rfl, rfl, rfl, w0⟩ := open_int Tryz.underlying22 (hval 0 22 v0 rfl rfl) h0
  obtain ⟨a1, rfl, rfl, rfl, w1⟩ := open_int Tryz.underlying22 (hval 1 22 v1 rfl rfl) h1
  obtain ⟨a2, rfl, rfl, rfl, w2⟩ := open_int Tryz.underlying23 (hval 2 23 v2 rfl rfl) h2
  clear hA0 hval0
  simp only [List.append_nil] at hW'
  refine (walk a0 a1 a2 w0 w1 w2 W).mono fun e W' ⟨he, hg⟩ => ?_
  subst he
  exact ⟨_, rfl, post_of_old (pa := []) (pv := []) hW' (fun _ _ _ => (trodAll_cons_mk (shut_bool Tryz.underlying4 _) trodAll_mk0)) (fun sp _ => (trodAll_cons_mk (shut_int Tryz.underlying22 w0) (trodAll_cons_mk (shut_int Tryz.underlying22 w1) (trodAll_cons_mk (shut_int Tryz.underlying23 w2) trodAll_mk0)))) (fun _ _ => rfl) rfl hg
    (ok_one (by kernel_rfl) rfl (okWide_bool_mk Tryz.underlying4 _))⟩

theorem over : Rows.lowblockLoopsRow.holds Tryz.pinned (OpenSpec.ofChange Rows.lowblockLoopsSpec) :=
  OpenClaim.holds_of_wide 3 Tryz.f3 rfl rfl rfl rfl rfl rfl rfl ⟨rfl, rfl, rfl, rfl, rfl⟩ rfl rfl rfl rfl rfl (by kernel_rfl) Tryz.func3 (by kernel_rfl)
    (of_decide_eq_true (by kernel_rfl)) (by unfold Func.isWrapper; first | (rw [if_pos (by decide +kernel)]; kernel_rfl) | (rw [if_neg (by decide +kernel)]; exact ⟨rfl, rfl⟩))
    (fun os started H enc _ => lifted os started H enc)

/-- ████ THE STATEMENT ████ -/
theorem proved : Rows.LowblockLoopsSaid :=
  over
#print axioms proved
end Go.Proofs.YtmppkccbjmeihaaGreat.lowblockLoops
