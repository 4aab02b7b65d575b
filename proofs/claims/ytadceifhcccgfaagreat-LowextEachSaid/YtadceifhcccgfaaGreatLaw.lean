/-
  LowextEach: for every number and every choice of the five, the law returns true; both arguments read behind the call as before. No condition.
  The law's code is run by an evaluator of the model's code on a memory of its own (proved sound: texts Ab1 to Ab26, Qe1 to Qe5, Qo); the number stays unknown, the runs part by which of the five and by the sign.
-/
import Derived.Test.YtadceifhcccgfaaGreatRows
import Derived.Test.YtadceifhcccgfaaGreatKnown
import Derived.Test.YtadceifhcccgfaaGreatNums
import Derived.Test.YtadceifhcccgfaaGreatR00
import Derived.Test.YtadceifhcccgfaaGreatR01
import Derived.Test.YtadceifhcccgfaaGreatR10
import Derived.Test.YtadceifhcccgfaaGreatR11
import Derived.Test.YtadceifhcccgfaaGreatR20
import Derived.Test.YtadceifhcccgfaaGreatR21
import Derived.Test.YtadceifhcccgfaaGreatR30
import Derived.Test.YtadceifhcccgfaaGreatR31
import Derived.Test.YtadceifhcccgfaaGreatR40
import Derived.Test.YtadceifhcccgfaaGreatR41
import Derived.WalkKit
import Derived.ProofKit
import Derived.OpenShut
namespace Go.Proofs.YtadceifhcccgfaaGreat.lowextEach
set_option autoImplicit true
set_option relaxedAutoImplicit true
set_option linter.unusedVariables false
set_option linter.unusedSimpArgs false
set_option linter.unusedSectionVars false
open Go.ChangeShapes Go.WideShapes Go.ChangeAt Go.RowKit Go.Abs Go.Proofs.Le

theorem own : ownKnob Tryz.prog.godebug = none := by kernel_rfl

/-! ### what stays as it was -/
/-- At most new blocks. -/
structure Same (w w' : World) : Prop where
  os : w'.os = w.os
  output : w'.output = w.output
  size : w.heap.size ≤ w'.heap.size
  heap : ∀ k, k < w.heap.size → w'.heap[k]? = w.heap[k]?
theorem Same.kept {w w' : World} (h : Same w w') (may : MemPlace → Prop) : w.keptBut w' may := by
  refine ⟨h.os, h.output, fun i hi => ?_⟩
  rw [h.heap i hi]
  cases w.heap[i]? with
  | none => trivial
  | some o => cases o <;> first | exact ⟨rfl, rfl, rfl, fun _ _ => rfl⟩ | exact .inr ⟨rfl, rfl⟩ | trivial
theorem Same.frozen {w w' : World} (h : Same w w') (a : Addr) (ha : a.block < w.heap.size) : w'.frozen? a = w.frozen? a := by
  simp only [World.frozen?, h.heap a.block ha]
theorem post_of_old {H : Type} {enc : TypeId × Value → H} {P : Program} {f : Func} {s : ChangeSpec} {apart fresh handsOn again : Bool} {W W' : World} {args : Array Value} {v : Value} {ds gs : List (DataW H)} {before pa pv : List MemPlace}
    (hW : DataW.Whole enc P f.params.toList s.vars apart W args.toList ds gs before)
    (hres : ∀ (b : Nat) (sp : Nat → Bool) (hd : Bool), DataW.TrodAll enc P W' b sp hd f.resultTypes.toList (v.resultList f.resultTypes.size) (s.fn H (ds ++ gs)).results [])
    (hargs : ∀ sp : Nat → Bool, (∀ p ∈ before, sp p.block = true) → DataW.TrodAll enc P W' 0 sp true f.params.toList args.toList (s.fn H (ds ++ gs)).args pa)
    (hvars : ∀ sp : Nat → Bool, (∀ p ∈ before, sp p.block = true) → DataW.TrodVars enc P W' sp s.vars (s.fn H (ds ++ gs)).vars pv)
    (hps : before = pa ++ pv) (hs : Same W W')
    (hok : ∀ (j : Nat) (t : TypeId) (r : Value), f.resultTypes[j]? = some t → (v.resultList f.resultTypes.size)[j]? = some r → Value.okWide P W' .any 0 t r) :
    s.post enc P f apart fresh handsOn again W args v W' := by
  have hold : ∀ p ∈ before, (fun b => decide (b < W.heap.size)) p.block = true := fun p hp => by simpa using hW.lt p hp
  have hlt := hW.lt
  refine ⟨ds, gs, before, [], pa, pv, hW, hres _ _ _, hargs _ hold, hvars _ hold, World.keptBut_mono (fun p hp => ⟨hp, ?_⟩) (hs.kept (· ∈ before)), fun _ => ?_⟩
  · rw [hps, List.mem_append] at hp
    exact Or.inr hp
  · obtain ⟨_, _, _, _, _, hz, hn⟩ := hW
    refine ⟨hok, _, _, ([] ++ pa) ++ pv, ⟨[] ++ pa, pv, trodAll_append (hargs _ (fun _ _ => rfl)) (hres _ _ _), hvars _ (fun _ _ => rfl), rfl, ?_, ?_⟩, ?_⟩
    · intro b off hp
      have hb : MemPlace.cell b off ∈ before := by rw [hps]; simpa using hp
      rw [hs.frozen _ (by have := hlt _ hb; exact this)]
      exact hz b off hb
    · intro ha
      have := hn ha
      rw [hps] at this
      simpa using this
    · intro p hp _
      rw [hps]
      simpa using hp

/-! ### the run -/
theorem runs {ρ : Nat → Int} {D : List (SB × Bool)} (hD : ∀ q, q ∈ D → q.1.den ρ = q.2) {code : Code} {t t' : Tr AVal} {S S' : St} {x : AExit} {r : RC}
    (hok : codeOK Tryz.prog a3.info code = true) (hr : exC (compC Tryz.prog a3.info code) (cx D) 119 a3.info.keep 100000 t S = r) (hx : r.opt 119 = some (x, ⟨119, t'⟩, S')) :
    ∃ m, CodeRuns Tryz.prog ρ a3.info m code ⟨119, t⟩ S x ⟨119, t'⟩ S' := by
  obtain ⟨m, hm⟩ := exC_sound (P := Tryz.prog) a3.info (cx D) 119 100000 rfl code t S (x, ⟨119, t'⟩, S') (by rw [hr]; exact hx)
  have hH : HandlerOK Tryz.prog ρ (cx D).H := callQ_sound mix (base_ok hD) (told_sound hD) TQ_ok 100000 60
  exact ⟨m, evC_sound mix hH (told_sound hD) m code _ _ _ _ _ hok (hm m (Nat.le_refl _))⟩

theorem known_kept {keep n d : Nat} {t : Tr AVal} {u x : AVal} (h : FK keep ⟨n, t⟩) (hd : t.get d = some u) : FK keep ⟨n, t.set d x⟩ := fun s v hv => by
  have hv2 : (t.set d x).get s = some v := hv
  rw [Tr.get_set] at hv2
  split at hv2
  · rename_i e1; subst e1; exact h d u hd
  · exact h s v hv2

theorem isR_ok {r : RC} (h : isR r = true) : ∃ t S, r = .ret t S ∧ t.get 4 = some (.bool true) := by
  cases r with
  | ret t S =>
    refine ⟨t, S, rfl, ?_⟩
    have h : (match getA t 4 with | some (.bool b) => b | _ => false) = true := h
    rw [getA_eq] at h
    split at h
    · rename_i b hb; subst h; exact hb
    · cases h
  | _ => cases h

def rho (a0 a1 : Int) : Nat → Int := fun i => match i with | 0 => a0 | _ => a1

theorem core (a0 a1 : Int) (w : World) (D : List (SB × Bool)) (hD : ∀ q, q ∈ D → q.1.den (rho a0 a1) = q.2) (k : Int) (hk : ek.den (rho a0 a1) = k) (hrun : isR (restR D k) = true) :
    Calls Tryz.prog 3 #[.int .u64 a0, .int .i64 a1] w fun e w' => e = .returned (.bool true) ∧ Same w w' := by
  have hnil : ∀ q, q ∈ ([] : List (SB × Bool)) → q.1.den (rho a0 a1) = q.2 := fun q hq => by cases hq
  obtain ⟨m1, n1, c1⟩ := runs (ρ := rho a0 a1) hnil code0_ok r0_eq rfl
  obtain ⟨m2, n2, c2⟩ := runs (ρ := rho a0 a1) hnil code1_ok r1_eq rfl
  obtain ⟨tz, Sz, hz, h4⟩ := isR_ok hrun
  have hz' : exC (compC Tryz.prog a3.info restC) (cx D) 119 a3.info.keep 100000 (t1.set 5 (.int .i64 k)) ⟨.leaf, 0⟩ = .ret tz Sz := by rw [← setA_eq]; exact hz
  obtain ⟨m3, n3, c3⟩ := runs (ρ := rho a0 a1) hD codeZ_ok hz' rfl
  obtain ⟨hfk, hai⟩ := AI.init (ρ := rho a0 a1) (keep := a3.info.keep) (n := 119) (μ := fun _ => none) (args := [.sym .u64 (.var 0), .sym .i64 (.var 1)]) (vs := [.int .u64 a0, .int .i64 a1])
    (.cons _ _ _ _ (.sym .u64 (.var 0)) (.cons _ _ _ _ (.sym .i64 (.var 1)) .nil)) (Nat.le_of_ble_eq_true rfl)
  obtain ⟨k1, c1⟩ := c1 hfk
  obtain ⟨k2, c2⟩ := c2 k1
  have k2' : FK a3.info.keep ⟨119, t1.set 5 (.int .i64 k)⟩ := known_kept k2 t1_k
  obtain ⟨k3, c3⟩ := c3 k2'
  refine calls_of_wp Tryz.func3 body_eq ?_
  refine wp_seq ((c1 (fun _ => none) _ w _ hai (HR.empty w) (fun _ _ _ => rfl) fun μ1 b1 w1 g1 s1 => ?_).1)
  refine wp_seq ((c2 μ1 _ w1 _ g1 s1.hr (fun b hb hb' => by cases hb') fun μ2 b2 w2 g2 s2 => ?_).1)
  refine (c3 μ2 _ w2 _ (g2.known t1_k hk) s2.hr (fun b hb hb' => ?_) fun μ3 b3 w3 g3 s3 => ?_).1
  · rw [s2.ext b (.inr (Nat.zero_le _)), s1.ext b (.inr (Nat.zero_le _))]
  · have st := s1.trans (s2.trans s3)
    obtain ⟨y, hyr, hy⟩ := results_sound (P := Tryz.prog) (fn := Tryz.f3) (vs := [.bool true]) (by
      show (oget (tz.get 4) fun v => oget (some []) fun l => some (v :: l)) = _
      rw [h4]; rfl) g3 s3.hr
    have hyr : VR (rho a0 a1) μ3 (.bool true) y := hyr
    cases hyr
    exact ⟨g3.defers, _, hy, rfl, st.os, st.output, st.size, st.grown empty_owned⟩

theorem ek_range (a0 a1 : Int) : 0 ≤ ek.den (rho a0 a1) ∧ ek.den (rho a0 a1) < 5 := by
  have e : ek.den (rho a0 a1) = (IntKind.wrap .i64 (a1.tmod 5 + 5)).tmod 5 := rfl
  rw [e]
  have h1 : a1.tmod 5 < 5 := Int.tmod_lt_of_pos a1 (by omega)
  have h2 : -5 < a1.tmod 5 := Int.lt_tmod_of_pos a1 (by omega)
  generalize a1.tmod 5 = r at *
  have h3 : IntKind.wrap .i64 (r + 5) = r + 5 := by rw [w_i64]; split <;> omega
  rw [h3, Int.tmod_eq_emod_of_nonneg (by omega)]
  omega

theorem walk (a0 : Int) (a1 : Int) (w0 : (Lit.int .u64 a0).wf = true) (w1 : (Lit.int .i64 a1).wf = true) (w : World) :
    Calls Tryz.prog 3 #[.int .u64 a0, .int .i64 a1] w fun e w' => e = .returned (.bool true) ∧ Same w w' := by
  have hw : 0 ≤ a0 ∧ a0 < 18446744073709551616 := by
    simp [Lit.wf, IntKind.min, IntKind.max, IntKind.signed, IntKind.bits] at w0
    omega
  have h0 : 0 ≤ rho a0 a1 0 := hw.1
  have h1 : rho a0 a1 0 < 18446744073709551616 := hw.2
  obtain ⟨l1, l2⟩ := ek_range a0 a1
  have hk : ek.den (rho a0 a1) = 0 ∨ ek.den (rho a0 a1) = 1 ∨ ek.den (rho a0 a1) = 2 ∨ ek.den (rho a0 a1) = 3 ∨ ek.den (rho a0 a1) = 4 := by omega
  rcases hk with hk | hk | hk | hk | hk
  · cases hg : g0.den (rho a0 a1) with
    | false => exact core a0 a1 w D00 (n00 h0 h1 hg) 0 hk run00
    | true => exact core a0 a1 w D01 (n01 h0 h1 hg) 0 hk run01
  · cases hg : g1.den (rho a0 a1) with
    | false => exact core a0 a1 w D10 (n10 h0 h1 hg) 1 hk run10
    | true => exact core a0 a1 w D11 (n11 h0 h1 hg) 1 hk run11
  · cases hg : g2.den (rho a0 a1) with
    | false => exact core a0 a1 w D20 (n20 h0 h1 hg) 2 hk run20
    | true => exact core a0 a1 w D21 (n21 h0 h1 hg) 2 hk run21
  · cases hg : g3.den (rho a0 a1) with
    | false => exact core a0 a1 w D30 (n30 h0 h1 hg) 3 hk run30
    | true => exact core a0 a1 w D31 (n31 h0 h1 hg) 3 hk run31
  · cases hg : g4.den (rho a0 a1) with
    | false => exact core a0 a1 w D40 (n40 h0 h1 hg) 4 hk run40
    | true => exact core a0 a1 w D41 (n41 h0 h1 hg) 4 hk run41

/-! ### THE ROW's STEP: WRITTEN OUT: LEAVE IT -/
set_option maxRecDepth 100000 in
theorem lifted (os : Os) (started : os.Started) (H : Type) (enc : TypeId × Value → H) :
    ReturnsInHanded {} Tryz.checked os 3 .any (Rows.lowextEachSpec.pre6 enc Tryz.prog Tryz.f3 Rows.lowextEachRow.domain false) (Rows.lowextEachSpec.post enc Tryz.prog Tryz.f3 false true false false) := by
  refine returnsInHanded_of_change (C := Tryz.checked) own started (by kernel_rfl) Tryz.func3
    (ChangeSpec.witness6 (enc := enc) (C := Tryz.checked) false ⟨#[], #[.int .u64 0, .int .i64 0], []⟩ 8 (by kernel_rfl) (by kernel_rfl) (by kernel_rfl) (by kernel_rfl)) ?_
  intro W base args ds gs before hval0 hW hcnd _
  have hval : ∀ (j : Nat) t v, Tryz.f3.params[j]? = some t → args[j]? = some v → Value.okWide Tryz.prog W .any base t v := hval0
  have hW' := hW
  obtain ⟨p, q, hA0, hV, rfl, hfz, hnd⟩ := hW
  have hA : DataW.TrodAll enc Tryz.prog W 0 (fun _ => true) true Tryz.f3.params.toList args.toList ds p := hA0
  rw [Tryz.params3] at hA hval
  obtain ⟨v0, vs0, d0, ds0, p0, q0, hargs, rfl, rfl, h0, r0⟩ := trodAll_cons hA
  obtain ⟨v1, vs1, d1, ds1, p1, q1, rfl, rfl, rfl, h1, r1⟩ := trodAll_cons r0
  obtain ⟨rfl, rfl, rfl⟩ := trodAll_nil r1
  obtain rfl : args = #[v0, v1] := by cases args; simp_all
  obtain ⟨rfl, rfl⟩ := trodVars_none hV
  obtain ⟨a0, rfl, rfl, rfl, w0⟩ := open_int Tryz.underlying22 (hval 0 22 v0 rfl rfl) h0
  obtain ⟨a1, rfl, rfl, rfl, w1⟩ := open_int Tryz.underlying3 (hval 1 3 v1 rfl rfl) h1
  clear hA0 hval0
  simp only [List.append_nil] at hW'
  refine (walk a0 a1 w0 w1 W).mono fun e W' ⟨he, hg⟩ => ?_
  subst he
  exact ⟨_, rfl, post_of_old (pa := []) (pv := []) hW' (fun _ _ _ => (trodAll_cons_mk (shut_bool Tryz.underlying4 _) trodAll_mk0)) (fun sp _ => (trodAll_cons_mk (shut_int Tryz.underlying22 w0) (trodAll_cons_mk (shut_int Tryz.underlying3 w1) trodAll_mk0))) (fun _ _ => rfl) rfl hg
    (ok_one (by kernel_rfl) rfl (okWide_bool_mk Tryz.underlying4 _))⟩

theorem over : Rows.lowextEachRow.holds Tryz.pinned (OpenSpec.ofChange Rows.lowextEachSpec) :=
  OpenClaim.holds_of_wide 3 Tryz.f3 rfl rfl rfl rfl rfl rfl rfl ⟨rfl, rfl, rfl, rfl, rfl⟩ rfl rfl rfl rfl rfl (by kernel_rfl) Tryz.func3 (by kernel_rfl)
    (of_decide_eq_true (by kernel_rfl)) (by unfold Func.isWrapper; first | (rw [if_pos (by decide +kernel)]; kernel_rfl) | (rw [if_neg (by decide +kernel)]; exact ⟨rfl, rfl⟩))
    (fun os started H enc _ => lifted os started H enc)

/-- ████ THE STATEMENT ████ -/
theorem proved : Rows.LowextEachSaid :=
  over
#print axioms proved
end Go.Proofs.YtadceifhcccgfaaGreat.lowextEach
