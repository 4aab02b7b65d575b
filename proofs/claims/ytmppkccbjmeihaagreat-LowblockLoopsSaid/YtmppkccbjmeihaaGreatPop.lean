import Derived.Test.YtmppkccbjmeihaaGreatAb26
import Derived.RangeFuncNested
import Derived.RangeFuncBound
import Derived.RangeFuncCalls
import Derived.RangeFuncLeaves
import Derived.Shelf.Abstract
import Derived.Shelf.RegionOpen
import Derived.WalkKit
import Derived.OwnWalkIn
import Derived.TacticsInMore
import Derived.LoopNIn
import Derived.LoopIn
import Derived.Test.YtmppkccbjmeihaaGreatProg
namespace Go.Proofs
set_option autoImplicit true
set_option relaxedAutoImplicit true
set_option linter.unusedVariables false
set_option linter.unusedSimpArgs false
set_option linter.unusedSectionVars false
open Go.RowKit Go.Shelf Go.Abs
attribute [local go_sem] Oper.semAt_some

set_option maxRecDepth 100000 in
set_option maxHeartbeats 2000000 in
theorem Pop.back (l Bs b off len cap : Nat) (hreach : len ≤ 4611686018427387904) (J : Nat → World → Prop)
    (hbox : ∀ k W, J k W → W.cell? ⟨Bs, 0, none⟩ = some (.slice (some ⟨b, off, none⟩) len cap))
    (hcell : ∀ k W, k < len → J (k + 1) W → ∃ x, W.cell? ⟨b, off + k, none⟩ = some (.int .i64 x))
    (hY : ∀ (k : Nat) x W, k < len → J (k + 1) W → W.cell? ⟨b, off + k, none⟩ = some (.int .i64 x) → YieldAt Fence.wide 0 Tryz.prog l #[.int .i64 k, .int .i64 x] W fun e W' => e = .returned (.bool true) ∧ J k W')
    (W : World) (h0 : J len W) :
    CallsIn Fence.wide 0 Tryz.prog 257 #[.func (.yield l) #[] #[], .pointer (some ⟨Bs, 0, none⟩)] W fun e W' => (∃ v, e = .returned v) ∧ J 0 W' := by
  refine callsIn_of_wp Tryz.func257 rfl trivial ?_ rfl
  simp only [Tryz.ntmps257, List.size_toArray, List.length_cons, List.length_nil, Nat.reduceAdd, Nat.reduceSub, Array.replicate_succ, Array.replicate_zero, List.push_toArray, List.append_toArray, List.nil_append, List.cons_append]
  have hb0 := hbox _ _ h0
  gi_wp2
  gi_loopw [3] (fun i wr => ∃ k : Nat, k ≤ len ∧ i = .int .i64 ((k : Int) - 1) ∧ J k wr) (fun i _ => (intOf i + 1).toNat)
  case atStart => exact ⟨len, Nat.le_refl _, rfl, h0⟩
  case round =>
    obtain ⟨k, hk, rfl, hJs⟩ := hrel
    have hbx := hbox _ _ hJs
    cases k with
    | zero =>
      gi_wp2
      go_end0
      exact ⟨⟨_, rfl⟩, hJs⟩
    | succ k =>
      obtain ⟨x, hx⟩ := hcell k wr (by omega) hJs
      obtain ⟨fn, tmps, assign, body, hy, hR⟩ := hY k x wr (by omega) hJs hx
      have e1 : ((k + 1 : Nat) : Int) - 1 = (k : Int) := by omega
      rw [e1]
      gi_wp2
      refine ⟨rfl, hR.mono ?_⟩
      rintro e W3 ⟨rfl, hJ3⟩
      gi_wp2
      go_roundw
      case rel => exact ⟨k, by omega, by simp, hJ3⟩
      case measure => simp [intOf]

/-- The loop's record. -/
noncomputable def Pop.rec (fn : FuncId) (tmps : Array Value) (D : Nat) (assign body : Code) : Loop := { state := .ready, pending := none, fn, tmps, params := #[9, 10], assign, body, defers := D }

noncomputable def Pop.assign : Code := match Tryz.f187.body with
  | some (.seq _ (.seq _ (.block _ (.rangeFunc _ _ a _)))) => a
  | _ => .skip
noncomputable def Pop.body : Code := match Tryz.f187.body with
  | some (.seq _ (.seq _ (.block _ (.rangeFunc _ _ _ b)))) => b
  | _ => .skip

section
variable {ρ : Nat → Int} {μ : Mu} {S S' : St} {w : World} {C : Handler}

/-- Between two rounds: k are left. -/
noncomputable def Pop.J (ρ : Nat → Int) (C : Handler) (μ : Mu) (S S' : St) (w : World) (b i lb li Bp Bs D l : Nat) (sp sl : Value) (r : Loop) (k : Nat) (W : World) : Prop :=
  ∃ μ1 S1, Step ρ μ S w μ1 S1 W ∧ popRun C 142 13 b i lb li k S1 = some S' ∧ Apart S1 μ1 w W Bp (.cells #[sp] 165) ∧ Apart S1 μ1 w W Bs (.cells #[sl] 24) ∧ Apart S1 μ1 w W D (.deferred (some [])) ∧ Apart S1 μ1 w W l (.loop r)

set_option maxRecDepth 100000 in
set_option maxHeartbeats 2000000 in
theorem Pop.round (hC : HandlerOK Tryz.prog ρ C) {b i lb li Bp Bs D l fn n cap : Nat} {m ml : Abs.Loc} (hm : μ b = some m) (hml : μ lb = some ml) (hf : Fresh μ S S') (hne : Bp ≠ l ∧ Bs ≠ l ∧ D ≠ l)
    (t0 t1 t3 t4 t5 t6 t7 t8 t9 t10 t11 t12 t13 t14 t15 t16 t17 t18 t19 t20 t21 t22 : Value)
    (sl : Value) (r : Loop) (hr : r = Pop.rec fn #[t0, t1, .pointer (some ⟨Bp, 0, none⟩), t3, t4, t5, t6, t7, t8, t9, t10, t11, t12, t13, t14, t15, t16, t17, t18, t19, t20, t21, t22] D Pop.assign Pop.body)
    (k : Nat) (x : Int) (W : World) (hJ : Pop.J ρ C μ S S' w b i lb li Bp Bs D l (.pointer (some ⟨m.blk, m.off + i, none⟩)) sl r (k + 1) W)
    (hx : W.cell? ⟨ml.blk, ml.off + li + k, none⟩ = some (.int .i64 x))
    (Rp : Ending → World → Prop) (hRp : ∀ W', Pop.J ρ C μ S S' w b i lb li Bp Bs D l (.pointer (some ⟨m.blk, m.off + i, none⟩)) sl r k W' → Rp (.returned (.bool true)) W') :
    YieldAt Fence.wide 0 Tryz.prog l #[.int .i64 k, .int .i64 x] W Rp := by
  obtain ⟨μ1, S1, hs, hrun, hBp, hBs, hD, hl⟩ := hJ
  subst hr
  refine ⟨_, _, _, _, run_yield hl.what rfl, ?_⟩
  refine roundIn_of_wpIn trivial ?_
  simp only [Pop.rec]
  show Code.wpIn _ _ _ Pop.assign _ _ _
  unfold Pop.assign
  simp only [Tryz.f187]
  gi_wp2
  refine ⟨_, run_beginRound hl.what rfl, ?_⟩
  generalize hr2 : Obj.loop { Pop.rec fn #[t0, t1, .pointer (some ⟨Bp, 0, none⟩), t3, t4, t5, t6, t7, t8, t9, t10, t11, t12, t13, t14, t15, t16, t17, t18, t19, t20, t21, t22] D Pop.assign Pop.body with state := .busy } = R2
  have hs' := hs.put_apart hl R2
  have hBp' := hBp.put (o' := R2) hne.1
  have hBs' := hBs.put (o' := R2) hne.2.1
  have hD' := hD.put (o' := R2) hne.2.2
  have hl' := hl.put_same (o' := R2)
  have hm1 := hs'.mono b m hm
  simp only [popRun, oget_some] at hrun
  obtain ⟨xv, hxv, ⟨v, S2⟩, hq, hrun⟩ := hrun
  have hcall := hC _ _ _ _ _ hq
  have hc0 : (W.putObj l R2).cell? ⟨Bp, 0, none⟩ = some (.pointer (some ⟨m.blk, m.off + i, none⟩)) := by simp only [World.cell?, hBp'.what]; rfl
  generalize hW2 : W.putObj l R2 = W2 at *
  show Code.wpIn _ _ _ Pop.body _ _ _
  unfold Pop.body
  simp only [Tryz.f187]
  have hn2 : popRun C 142 13 b i lb li k S2 = some S' ∨ True := .inr trivial
  gi_wp2
  have hnx : S2.next ≤ S'.next := popRun_after hC hrun
  have hfr : Fresh μ1 S1 S2 := (hf.right hs).left hcall.1 hnx
  refine ⟨trivial, rfl, CallsIn.inRound l (callsIn_wide.2 (Calls.mono (hcall.2.2 μ1 [.pointer (some ⟨m.blk, m.off + i, none⟩)] W2 (.cons _ _ _ _ (.ptr b i m hm1) .nil) hs'.hr hfr) ?_))⟩
  rintro e W3 ⟨v', μ2, rfl, hv, hs2⟩
  have hBp2 := hBp'.step hs2
  have hc3 : W3.cell? ⟨Bp, 0, none⟩ = some (.pointer (some ⟨m.blk, m.off + i, none⟩)) := by simp only [World.cell?, hBp2.what]; rfl
  obtain ⟨t, n', rfl, rfl, hrun1⟩ : ∃ t n', v = .int .i64 t ∧ xv = .int .i64 n' ∧ bsel (eqI t 0) (popRun C 142 13 b i lb li k S2) (bsel (eqI t n') (popRun C 142 13 b i lb li k S2)
        (oget (S2.stores b (i + 13) [.bool true]) fun S => popRun C 142 13 b i lb li k S)) = some S' := by
    split at hrun
    · exact ⟨_, _, rfl, rfl, hrun⟩
    · cases hrun
  cases hv
  have hxn : n' = x := by
    obtain ⟨y, hy, hyv⟩ := load_sound hs.hr hxv (hs.mono _ _ hml)
    rw [← Nat.add_assoc, hx] at hy
    cases hy
    cases hyv
    rfl
  subst hxn
  clear hrun
  rw [eqI_eq, eqI_eq] at hrun1
  have hl2 := hl'.step hs2
  have hfin : ∀ W4 μ4 S4, Step ρ μ2 S2 W3 μ4 S4 W4 → popRun C 142 13 b i lb li k S4 = some S' → ∃ v w', (Instr.endRound l none).run Tryz.prog W4 = .ok v w' ∧ Rp (.returned v) w' := fun W4 μ4 S4 hs4 hr4 => by
    have hl4 := hl2.step hs4
    rw [← hr2] at hl4
    have hrun := run_endRound (P := Tryz.prog) none hl4.what
    refine ⟨_, _, hrun, hRp _ ⟨μ4, S4, (hs'.trans (hs2.trans hs4)).put_apart hl4 _, hr4, ((hBp'.step hs2).step hs4).put hne.1, ((hBs'.step hs2).step hs4).put hne.2.1, ((hD'.step hs2).step hs4).put hne.2.2, hl4.put_same⟩⟩
  by_cases h0 : t = 0
  · subst h0
    gi_wp2
    exact hfin _ _ _ (.refl hs2.hr) (by simpa [bsel] using hrun1)
  · by_cases h1 : t = n'
    · gi_wp2
      exact hfin _ _ _ (.refl hs2.hr) (by rw [decide_eq_false h0, decide_eq_true h1] at hrun1; exact hrun1)
    · have hst : ∃ S3, S2.stores b (i + 13) [.bool true] = some S3 ∧ popRun C 142 13 b i lb li k S3 = some S' := by
        rw [decide_eq_false h0, decide_eq_false h1] at hrun1
        simpa only [bsel_false, oget_some] using hrun1
      obtain ⟨S3, hst, hr3⟩ := hst
      obtain ⟨k1, k2, k3, _⟩ := stores_sound hs2.hr hst (hs2.mono _ _ hm1) (.cons _ _ _ _ (.bool true) .nil)
      have k1' := k1 0 (by simp)
      have k2' := k2 0 (by simp)
      rw [Nat.add_zero, ← Nat.add_assoc] at k1' k2'
      rw [← Nat.add_assoc] at k3
      simp only [World.setCells] at k3
      obtain ⟨u, hu⟩ := Option.isSome_iff_exists.1 k1'
      gi_wp2
      · exact hfin _ _ _ k3 hr3
      · rename_i hor
        exfalso
        rcases hor with hor | hor
        · simp at hor; exact h0 hor
        · simp at hor; exact h1 hor

theorem Pop.cell {μ1 : Mu} {S1 : St} {W : World} {b i lb li k : Nat} {ml : Abs.Loc} (hs : HR ρ μ1 S1 W) (hml : μ1 lb = some ml) (hrun : popRun C 142 13 b i lb li (k + 1) S1 = some S') : ∃ x, W.cell? ⟨ml.blk, ml.off + li + k, none⟩ = some (.int .i64 x) := by
  simp only [popRun, oget_some] at hrun
  obtain ⟨xv, hxv, ⟨v, S2⟩, hq, hrun⟩ := hrun
  split at hrun
  · rename_i t n' _ _
    obtain ⟨y, hy, hyv⟩ := load_sound hs hxv hml
    cases hyv
    exact ⟨_, by rw [← Nat.add_assoc] at hy; exact hy⟩
  · cases hrun

set_option maxRecDepth 100000 in
set_option maxHeartbeats 2000000 in
/-- slices.Backward: the slice is boxed. -/
theorem Pop.backward (a : Option Addr) (len cap : Nat) (w : World) :
    CallsIn Fence.wide 0 Tryz.prog 227 #[.slice a len cap] w fun e w' => e = .returned (.func (.func 257) #[] #[.pointer (some ⟨w.heap.size, 0, none⟩)]) ∧ w' = w.alloc (.cells #[.slice a len cap] 24) := by
  refine callsIn_of_wp Tryz.func227 rfl trivial ?_ rfl
  simp only [Tryz.ntmps227, List.size_toArray, List.length_cons, List.length_nil, Nat.reduceAdd, Nat.reduceSub, Array.replicate_succ, Array.replicate_zero, List.push_toArray, List.append_toArray, List.nil_append, List.cons_append]
  gi_wp2
  go_ret
  exact ⟨rfl, rfl⟩

set_option maxRecDepth 100000 in
set_option maxHeartbeats 2000000 in
theorem Pop.backNil (l Bs : Nat) (J : World → Prop) (W : World) (hBs : W.cell? ⟨Bs, 0, none⟩ = some (.slice none 0 0)) (h0 : J W) :
    CallsIn Fence.wide 0 Tryz.prog 257 #[.func (.yield l) #[] #[], .pointer (some ⟨Bs, 0, none⟩)] W fun e W' => (∃ v, e = .returned v) ∧ J W' := by
  refine callsIn_of_wp Tryz.func257 rfl trivial ?_ rfl
  simp only [Tryz.ntmps257, List.size_toArray, List.length_cons, List.length_nil, Nat.reduceAdd, Nat.reduceSub, Array.replicate_succ, Array.replicate_zero, List.push_toArray, List.append_toArray, List.nil_append, List.cons_append]
  gi_wp2
  gi_loopw [3] (fun i wr => i = .int .i64 (-1) ∧ J wr) (fun _ _ => 0)
  case atStart => exact ⟨rfl, h0⟩
  case round =>
    obtain ⟨rfl, hJs⟩ := hrel
    gi_wp2
    go_end0
    exact ⟨⟨_, rfl⟩, hJs⟩

set_option maxRecDepth 100000 in
set_option maxHeartbeats 2000000 in
theorem Pop.main (hC : HandlerOK Tryz.prog ρ C) {b i : Nat} {m : Abs.Loc} (hm : μ b = some m) (hr : HR ρ μ S w) (hf : Fresh μ S S') (sa : Option Addr) (n cap : Nat)
    (hsl : (sa = none ∧ n = 0 ∧ cap = 0 ∧ S' = S) ∨ ∃ lb li ml, μ lb = some ml ∧ sa = some ⟨ml.blk, ml.off + li, none⟩ ∧ n ≤ 4611686018427387904 ∧ popRun C 142 13 b i lb li n S = some S') :
    CallsIn Fence.wide 0 Tryz.prog 187 #[.pointer (some ⟨m.blk, m.off + i, none⟩), .slice sa n cap] w fun e w' => ∃ μ', e = .returned (.tuple #[]) ∧ Step ρ μ S w μ' S' w' := by
  refine callsIn_of_wp_marks Tryz.func187 rfl trivial ?_ rfl
  simp only [Tryz.ntmps187, List.size_toArray, List.length_cons, List.length_nil, Nat.reduceAdd, Nat.reduceSub, Array.replicate_succ, Array.replicate_zero, List.push_toArray, List.append_toArray, List.nil_append, List.cons_append]
  gi_wp2
  refine ⟨trivial, rfl, (Pop.backward _ _ _ _).mono ?_⟩
  rintro e W2 ⟨rfl, rfl⟩
  gi_wp2
  obtain ⟨s1, a1⟩ := (Step.refl hr).alloc_apart (.cells #[.pointer (some ⟨m.blk, m.off + i, none⟩)] 165)
  obtain ⟨s2, a2⟩ := s1.alloc_apart (.cells #[.slice sa n cap] 24)
  have a1 := a1.alloc (.cells #[.slice sa n cap] 24)
  rw [World.size_alloc] at a2
  generalize hW2 : (w.alloc (.cells #[.pointer (some ⟨m.blk, m.off + i, none⟩)] 165)).alloc (.cells #[.slice sa n cap] 24) = W2 at *
  refine wpIn_rangeFunc ?_
  intro fn hfn
  rw [show Fence.wide.round = none from rfl]
  obtain ⟨s3, a3⟩ := s2.alloc_apart (.deferred (some []))
  have a1 := a1.alloc (.deferred (some []))
  have a2 := a2.alloc (.deferred (some []))
  generalize hrec : Pop.rec fn #[Value.pointer (some { block := m.blk, off := m.off + i }), Value.slice sa n cap,
          Value.pointer (some { block := w.heap.size, off := 0 }), undef, undef, undef, undef, Value.slice sa n cap,
          Value.func (Fn.func 257) #[] #[Value.pointer (some { block := w.heap.size + 1, off := 0 })], undef, undef,
          undef, undef, undef, undef, undef, undef, undef, undef, undef, undef, undef, undef] W2.heap.size Pop.assign Pop.body = rc
  obtain ⟨s4, a4⟩ := s3.alloc_apart (.loop rc)
  have a1 := a1.alloc (.loop rc)
  have a2 := a2.alloc (.loop rc)
  have a3 := a3.alloc (.loop rc)
  rw [World.size_alloc] at a4
  generalize hW4 : (W2.alloc (.deferred (some []))).alloc (.loop rc) = W4 at *
  have hlt2 : w.heap.size + 2 = W2.heap.size := by rw [← hW2]; simp
  refine ⟨W2.heap.size + 1, [{ target := .collected W2.heap.size, args := #[] }], W4, { target := .fn (.func 257) #[.pointer (some ⟨w.heap.size + 1, 0, none⟩)], args := #[.func (.yield (W2.heap.size + 1)) #[] #[]] }, W4, 257,
    #[.func (.yield (W2.heap.size + 1)) #[] #[]] ++ #[.pointer (some ⟨w.heap.size + 1, 0, none⟩)], W4, ?_, ?_, fun _ _ => trivial, ?_, (fun h => by cases h), ?_⟩
  · rw [← hW4, ← hrec]
    exact run_enterLoop_outer _ _ _ _ _
  · simp [resolve, rangeCall, go_sem]
  · simp [invoke, go_sem, enters_of Tryz.func257 (by kernel_rfl) rfl]
  have fin : ∀ W5 μ5, Step ρ μ S w μ5 S' W5 → Apart S' μ5 w W5 W2.heap.size (.deferred (some [])) → Apart S' μ5 w W5 (W2.heap.size + 1) (.loop rc) →
      rangePost Fence.wide 0 Tryz.prog (W2.heap.size + 1) (Exit.inBlock 0 (bodyPostM Fence.wide 0 Tryz.prog Tryz.f187 fun e w' => ∃ μ', e = .returned (.tuple #[]) ∧ Step ρ μ S w μ' S' w'))
        { tmps := #[Value.pointer (some { block := m.blk, off := m.off + i }), Value.slice sa n cap,
          Value.pointer (some { block := w.heap.size, off := 0 }), undef, undef, undef, undef, Value.slice sa n cap,
          Value.func (Fn.func 257) #[] #[Value.pointer (some { block := w.heap.size + 1, off := 0 })], undef, undef,
          undef, undef, undef, undef, undef, undef, undef, undef, undef, undef, undef, undef], defers := [{ target := .collected W2.heap.size, args := #[] }] } (.returned .nilFunc) W5 := fun W5 μ5 hs5 hD hl => by
    have hend := run_endLoop (P := Tryz.prog) hl.what (by rw [← hrec]; simp [Pop.rec])
    have hpend : rc.pending = none := by rw [← hrec]; rfl
    refine ⟨none, _, hend.trans (congrArg (fun j => Result.ok j _) hpend), ?_⟩
    have hs6 := hs5.put_apart hl (.loop { rc with state := .exhausted })
    have hD6 := hD.put (o' := .loop { rc with state := .exhausted }) (l := W2.heap.size + 1) (by omega)
    refine ⟨by simp, .inl ⟨_, _, rfl, run_takeDeferred hD6.what, ?_⟩⟩
    exact ⟨_, results_none rfl _ _ _, μ5, rfl, hs6.put_apart hD6 _⟩
  have hBs : ∀ {S5 μ5 W5}, Apart S5 μ5 w W5 (w.heap.size + 1) (.cells #[.slice sa n cap] 24) → W5.cell? ⟨w.heap.size + 1, 0, none⟩ = some (.slice sa n cap) := fun h => by simp only [World.cell?, h.what]; rfl
  rcases hsl with ⟨rfl, rfl, rfl, rfl⟩ | ⟨lb, li, ml, hml, rfl, hreach, hrun⟩
  · refine (Pop.backNil _ _ (fun W => W = W4) W4 (hBs a2) rfl).mono ?_
    rintro e W5 ⟨⟨v, rfl⟩, rfl⟩
    exact fin W5 μ s4 a3 a4
  · refine (Pop.back (W2.heap.size + 1) (w.heap.size + 1) ml.blk (ml.off + li) n cap hreach (fun k W => Pop.J ρ C μ S S' w b i lb li w.heap.size (w.heap.size + 1) W2.heap.size (W2.heap.size + 1) (.pointer (some ⟨m.blk, m.off + i, none⟩)) (.slice (some ⟨ml.blk, ml.off + li, none⟩) n cap) rc k W) ?_ ?_ ?_ W4 ⟨μ, S, s4, hrun, a1, a2, a3, a4⟩).mono ?_
    · rintro k W ⟨μ1, S1, _, _, _, h, _⟩
      exact hBs h
    · rintro k W _ ⟨μ1, S1, hs, hru, _⟩
      exact Pop.cell hs.hr (hs.mono _ _ hml) hru
    · rintro k x W _ hJ hx
      exact Pop.round hC (n := n) (cap := cap) hm hml hf ⟨by omega, by omega, by omega⟩ _ _ _ _ _ _ _ _ _ _ _ _ _ _ _ _ _ _ _ _ _ _ _ rc hrec.symm k x W hJ hx _ fun W' hJ' => ⟨rfl, hJ'⟩
    · rintro e W5 ⟨⟨v, rfl⟩, μ1, S1, hs5, hru, _, _, hD, hl⟩
      cases hru
      exact fin W5 μ1 hs5 hD hl

theorem Pop.two {a b : AVal} {vs : List Value} (h : VRs ρ μ [a, b] vs) : ∃ x y, vs = [x, y] ∧ VR ρ μ a x ∧ VR ρ μ b y := by
  cases h with
  | cons _ x _ r h1 h2 =>
    cases h2 with
    | cons _ y _ r h3 h4 => cases h4; exact ⟨x, y, rfl, h1, h3⟩
theorem Pop.ok (hC : HandlerOK Tryz.prog ρ C) : HandlerOK Tryz.prog ρ (popH C 187 142 13) := fun f xs S v S' h => by
  unfold popH at h
  rw [bsel_eq] at h
  split at h
  · rename_i hfn
    have hf187 := Nat.eq_of_beq_eq_true hfn
    subst hf187
    have hen := enters_of Tryz.func187 (by kernel_rfl) rfl
    split at h
    · rename_i b i
      cases h
      refine ⟨Nat.le_refl _, hen, fun μ vs w hvs hr hf => ?_⟩
      obtain ⟨x, y, rfl, hv, hv2⟩ := Pop.two hvs
      cases hv
      cases hv2
      rename_i m hm
      refine (callsIn_wide.1 (Pop.main hC hm hr hf none 0 0 (.inl ⟨rfl, rfl, rfl, rfl⟩))).mono ?_
      rintro e w' ⟨μ', rfl, hs⟩
      exact ⟨_, μ', rfl, .tuple [] [] .nil, hs⟩
    · rename_i b i lb li n cap opn
      simp only [bsel_none, oget_some] at h
      obtain ⟨hn, u, hal, S1, hrun, e⟩ := h
      cases e
      refine ⟨popRun_next hC hrun, hen, fun μ vs w hvs hr hf => ?_⟩
      have hn := Nat.le_of_ble_eq_true hn
      obtain ⟨x, y, rfl, hv, hv2⟩ := Pop.two hvs
      cases hv
      cases hv2
      · rename_i m hm ml hml _
        refine (callsIn_wide.1 (Pop.main hC hm hr hf (some ⟨ml.blk, ml.off + li, none⟩) n cap (.inr ⟨lb, li, ml, hml, rfl, hn, hrun⟩))).mono ?_
        rintro e w' ⟨μ', rfl, hs⟩
        exact ⟨_, μ', rfl, .tuple [] [] .nil, hs⟩
      · rename_i m hm es cap' ml hml _ _ _
        refine (callsIn_wide.1 (Pop.main hC hm hr hf (some ⟨ml.blk, ml.off + li, none⟩) n cap' (.inr ⟨lb, li, ml, hml, rfl, hn, hrun⟩))).mono ?_
        rintro e w' ⟨μ', rfl, hs⟩
        exact ⟨_, μ', rfl, .tuple [] [] .nil, hs⟩
    · cases h
  · cases h
end
end Go.Proofs
