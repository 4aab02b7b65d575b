/- Lemmas on tries and on the words of control. -/
import Derived.Test.YtmppkccbjmeihaaGreatAb2
namespace Go.Abs
set_option autoImplicit true
set_option relaxedAutoImplicit true
set_option linter.unusedVariables false
set_option linter.unusedSimpArgs false
set_option linter.unusedSectionVars false

theorem oget_some {α β : Type} {o : Option α} {k : α → Option β} {r : β} : oget o k = some r ↔ ∃ x, o = some x ∧ k x = some r := by
  cases o <;> simp [oget]
theorem bsel_true {β : Type} (x y : β) : bsel true x y = x := rfl
theorem bsel_false {β : Type} (x y : β) : bsel false x y = y := rfl
theorem bsel_eq {β : Type} (b : Bool) (x y : β) : bsel b x y = if b = true then x else y := by cases b <;> rfl
theorem bsel_none {β : Type} {b : Bool} {x : Option β} {r : β} : bsel b x none = some r ↔ b = true ∧ x = some r := by cases b <;> simp [bsel]
theorem bsel_none' {β : Type} {b : Bool} {x : Option β} {r : β} : bsel b none x = some r ↔ b = false ∧ x = some r := by cases b <;> simp [bsel]
theorem forceN_eq {β : Type} (n : Nat) (k : Nat → β) : forceN n k = k n := by cases n <;> rfl
theorem forceI_eq {β : Type} (n : Int) (k : Int → β) : forceI n k = k n := by cases n <;> simp [forceI, forceN_eq]
theorem leI_eq (a b : Int) : leI a b = decide (a ≤ b) := by
  unfold leI
  have h : Int.sub b a = b - a := rfl
  rw [h]
  cases hc : b - a with
  | ofNat n => have hd : b - a = (n : Int) := hc; simp; omega
  | negSucc n => have hd : b - a = -(n + 1 : Int) := by rw [hc, Int.negSucc_eq]
                 simp; omega
theorem eqI_eq (a b : Int) : eqI a b = decide (a = b) := by
  unfold eqI
  cases a with
  | ofNat m => cases b with
    | ofNat n => show Nat.beq m n = _; rw [Bool.eq_iff_iff, Nat.beq_eq]; simp; omega
    | negSucc n => simp
  | negSucc m => cases b with
    | ofNat n => simp
    | negSucc n => show Nat.beq m n = _; rw [Bool.eq_iff_iff, Nat.beq_eq]; simp
theorem blt_eq (a b : Nat) : Nat.blt a b = true ↔ a < b := by
  unfold Nat.blt
  rw [Nat.ble_eq]; exact Iff.rfl

namespace Tr
variable {α : Type}
theorem setF_succ (f : Nat) (t : Tr α) (n : Nat) (x : α) : setF (f + 1) t n x = Tr.casesOn t
      (bsel (Nat.beq n 0) (.node .leaf (some x) .leaf)
        (bsel (Nat.beq (Nat.mod n 2) 1) (Tr.casesOn (setF f .leaf (Nat.div n 2) x) .leaf fun a b c => .node (.node a b c) none .leaf)
          (Tr.casesOn (setF f .leaf (Nat.pred (Nat.div n 2)) x) .leaf fun a b c => .node .leaf none (.node a b c))))
      fun l v r => bsel (Nat.beq n 0) (.node l (some x) r)
        (bsel (Nat.beq (Nat.mod n 2) 1) (Tr.casesOn (setF f l (Nat.div n 2) x) (.node .leaf v r) fun a b c => .node (.node a b c) v r)
          (Tr.casesOn (setF f r (Nat.pred (Nat.div n 2)) x) (.node l v .leaf) fun a b c => .node l v (.node a b c))) := rfl
theorem getF_succ (f : Nat) (t : Tr α) (n : Nat) : getF (f + 1) t n = Tr.casesOn t none fun l v r => bsel (Nat.beq n 0) v (bsel (Nat.beq (Nat.mod n 2) 1) (getF f l (Nat.div n 2)) (getF f r (Nat.pred (Nat.div n 2)))) := rfl
theorem part3 (n : Nat) : (n = 0) ∨ (∃ k, n = 2 * k + 1) ∨ (∃ k, n = 2 * k + 2) := by
  rcases Nat.eq_zero_or_pos n with h | h
  · exact .inl h
  · rcases Nat.mod_two_eq_zero_or_one n with e | e
    · exact .inr (.inr ⟨n / 2 - 1, by omega⟩)
    · exact .inr (.inl ⟨n / 2, by omega⟩)
theorem beq0_odd (k : Nat) : Nat.beq (2 * k + 1) 0 = false := rfl
theorem mod_odd (k : Nat) : Nat.mod (2 * k + 1) 2 = 1 := by show (2 * k + 1) % 2 = 1; omega
theorem div_odd (k : Nat) : Nat.div (2 * k + 1) 2 = k := by show (2 * k + 1) / 2 = k; omega
theorem mod_even (k : Nat) : Nat.mod (2 * k + 2) 2 = 0 := by show (2 * k + 2) % 2 = 0; omega
theorem div_even (k : Nat) : Nat.pred (Nat.div (2 * k + 2) 2) = k := by show (2 * k + 2) / 2 - 1 = k; omega
theorem getF_node0 (f : Nat) (l : Tr α) (v : Option α) (r : Tr α) : getF (f + 1) (.node l v r) 0 = v := rfl
theorem getF_leaf (f n : Nat) : getF (f + 1) (.leaf : Tr α) n = none := rfl
theorem getF_leaf' (f n : Nat) : getF f (.leaf : Tr α) n = none := by cases f <;> rfl
theorem getF_odd (f k : Nat) (l : Tr α) (v : Option α) (r : Tr α) : getF (f + 1) (.node l v r) (2 * k + 1) = getF f l k := by
  rw [getF_succ]; simp only [beq0_odd, bsel_false, mod_odd, div_odd]; rfl
theorem getF_even (f k : Nat) (l : Tr α) (v : Option α) (r : Tr α) : getF (f + 1) (.node l v r) (2 * k + 2) = getF f r k := by
  rw [getF_succ]; simp only [show Nat.beq (2 * k + 2) 0 = false from rfl, bsel_false, mod_even, div_even]; rfl
theorem setF_node (f : Nat) : ∀ (t : Tr α) (n : Nat) (x : α), n < f → ∃ a b c, setF f t n x = .node a b c := by
  induction f with
  | zero => intro t n x h; omega
  | succ f ih =>
    intro t n x h
    rw [setF_succ]
    rcases part3 n with rfl | ⟨k, rfl⟩ | ⟨k, rfl⟩
    · cases t <;> exact ⟨_, _, _, rfl⟩
    · cases t with
      | leaf => simp only [beq0_odd, bsel_false, mod_odd, div_odd, show Nat.beq 1 1 = true from rfl, bsel_true]; obtain ⟨a, b, c, e⟩ := ih .leaf k x (by omega); rw [e]; exact ⟨_, _, _, rfl⟩
      | node l v r => simp only [beq0_odd, bsel_false, mod_odd, div_odd, show Nat.beq 1 1 = true from rfl, bsel_true]; obtain ⟨a, b, c, e⟩ := ih l k x (by omega); rw [e]; exact ⟨_, _, _, rfl⟩
    · cases t with
      | leaf => simp only [show Nat.beq (2 * k + 2) 0 = false from rfl, bsel_false, mod_even, div_even, show Nat.beq 0 1 = false from rfl]; obtain ⟨a, b, c, e⟩ := ih .leaf k x (by omega); rw [e]; exact ⟨_, _, _, rfl⟩
      | node l v r => simp only [show Nat.beq (2 * k + 2) 0 = false from rfl, bsel_false, mod_even, div_even, show Nat.beq 0 1 = false from rfl]; obtain ⟨a, b, c, e⟩ := ih r k x (by omega); rw [e]; exact ⟨_, _, _, rfl⟩
theorem setF_odd_leaf (f k : Nat) (x : α) (h : k < f) : setF (f + 1) .leaf (2 * k + 1) x = .node (setF f .leaf k x) none .leaf := by
  rw [setF_succ]; simp only [beq0_odd, bsel_false, mod_odd, div_odd, show Nat.beq 1 1 = true from rfl, bsel_true]; obtain ⟨a, b, c, e⟩ := setF_node f .leaf k x h; rw [e]
theorem setF_odd_node (f k : Nat) (l : Tr α) (v : Option α) (r : Tr α) (x : α) (h : k < f) : setF (f + 1) (.node l v r) (2 * k + 1) x = .node (setF f l k x) v r := by
  rw [setF_succ]; simp only [beq0_odd, bsel_false, mod_odd, div_odd, show Nat.beq 1 1 = true from rfl, bsel_true]; obtain ⟨a, b, c, e⟩ := setF_node f l k x h; rw [e]
theorem setF_even_leaf (f k : Nat) (x : α) (h : k < f) : setF (f + 1) .leaf (2 * k + 2) x = .node .leaf none (setF f .leaf k x) := by
  rw [setF_succ]; simp only [show Nat.beq (2 * k + 2) 0 = false from rfl, bsel_false, mod_even, div_even, show Nat.beq 0 1 = false from rfl]; obtain ⟨a, b, c, e⟩ := setF_node f .leaf k x h; rw [e]
theorem setF_even_node (f k : Nat) (l : Tr α) (v : Option α) (r : Tr α) (x : α) (h : k < f) : setF (f + 1) (.node l v r) (2 * k + 2) x = .node l v (setF f r k x) := by
  rw [setF_succ]; simp only [show Nat.beq (2 * k + 2) 0 = false from rfl, bsel_false, mod_even, div_even, show Nat.beq 0 1 = false from rfl]; obtain ⟨a, b, c, e⟩ := setF_node f r k x h; rw [e]
theorem if_odd {β : Type} (k j : Nat) (x y : β) : (if k = j then x else y) = if 2 * k + 1 = 2 * j + 1 then x else y := by
  by_cases h : k = j
  · rw [if_pos h, if_pos (by omega)]
  · rw [if_neg h, if_neg (by omega)]
theorem if_even {β : Type} (k j : Nat) (x y : β) : (if k = j then x else y) = if 2 * k + 2 = 2 * j + 2 then x else y := by
  by_cases h : k = j
  · rw [if_pos h, if_pos (by omega)]
  · rw [if_neg h, if_neg (by omega)]
theorem getF_setF (x : α) : ∀ (f n : Nat), n < f → ∀ (g m : Nat), m < g → ∀ t : Tr α, getF g (setF f t n x) m = if n = m then some x else getF g t m := by
  intro f
  induction f with
  | zero => intro n h; omega
  | succ f ih =>
    intro n hn g m hm t
    obtain ⟨g, rfl⟩ : ∃ g', g = g' + 1 := ⟨g - 1, by omega⟩
    rcases part3 n with rfl | ⟨k, rfl⟩ | ⟨k, rfl⟩
    · have e : setF (f + 1) t 0 x = Tr.casesOn t (.node .leaf (some x) .leaf) fun l _ r => .node l (some x) r := by cases t <;> rfl
      rw [e]
      rcases part3 m with rfl | ⟨j, rfl⟩ | ⟨j, rfl⟩ <;> cases t <;> simp [getF_node0, getF_odd, getF_even, getF_leaf, getF_leaf']
    · cases t with
      | leaf =>
        rw [setF_odd_leaf _ _ _ (by omega)]
        rcases part3 m with rfl | ⟨j, rfl⟩ | ⟨j, rfl⟩
        · simp [getF_node0, getF_leaf]
        · rw [getF_odd, ih k (by omega) g j (by omega), getF_leaf', getF_leaf]; exact if_odd k j _ _
        · rw [getF_even, getF_leaf', getF_leaf, if_neg (by omega)]
      | node l v r =>
        rw [setF_odd_node _ _ _ _ _ _ (by omega)]
        rcases part3 m with rfl | ⟨j, rfl⟩ | ⟨j, rfl⟩
        · simp [getF_node0]
        · rw [getF_odd, ih k (by omega) g j (by omega), getF_odd]; exact if_odd k j _ _
        · rw [getF_even, getF_even, if_neg (by omega)]
    · cases t with
      | leaf =>
        rw [setF_even_leaf _ _ _ (by omega)]
        rcases part3 m with rfl | ⟨j, rfl⟩ | ⟨j, rfl⟩
        · simp [getF_node0, getF_leaf]
        · rw [getF_odd, getF_leaf', getF_leaf, if_neg (by omega)]
        · rw [getF_even, ih k (by omega) g j (by omega), getF_leaf', getF_leaf]; exact if_even k j _ _
      | node l v r =>
        rw [setF_even_node _ _ _ _ _ _ (by omega)]
        rcases part3 m with rfl | ⟨j, rfl⟩ | ⟨j, rfl⟩
        · simp [getF_node0]
        · rw [getF_odd, getF_odd, if_neg (by omega)]
        · rw [getF_even, ih k (by omega) g j (by omega), getF_even]; exact if_even k j _ _
theorem get_set (t : Tr α) (n m : Nat) (x : α) : (t.set n x).get m = if n = m then some x else t.get m := getF_setF x _ _ (Nat.lt_succ_self n) _ _ (Nat.lt_succ_self m) t
theorem set_node (t : Tr α) (n : Nat) (x : α) : ∃ a b c, t.set n x = .node a b c := setF_node _ _ _ _ (Nat.lt_succ_self n)
theorem get_leaf (n : Nat) : (.leaf : Tr α).get n = none := rfl
end Tr

theorem Fr.put_eq (F : Fr) (d : Nat) (v : AVal) : F.put d v = if d < F.n then some ⟨F.n, F.t.set d v⟩ else none := by
  obtain ⟨a, b, c, e⟩ := Tr.set_node F.t d v
  unfold Fr.put
  rw [e]
  by_cases h : d < F.n
  · rw [(blt_eq _ _).2 h, if_pos h]; rfl
  · rw [if_neg h, Bool.eq_false_iff.2 (fun e => h ((blt_eq _ _).1 e))]; rfl
theorem St.setBlk_eq (S : St) (b : Nat) (B : ABlk) : S.setBlk b B = some ⟨S.heap.set b B, S.next⟩ := by
  obtain ⟨x, y, z, e⟩ := Tr.set_node S.heap b B
  unfold St.setBlk; rw [e]
theorem St.new_eq (S : St) (B : ABlk) : S.new B = some (S.next, ⟨S.heap.set S.next B, S.next + 1⟩) := by
  obtain ⟨x, y, z, e⟩ := Tr.set_node S.heap S.next B
  unfold St.new; rw [e]; simp only [forceN_eq]
theorem St.blk_set (h : Tr ABlk) (n b c : Nat) (B : ABlk) : St.blk ⟨h.set b B, n⟩ c = if b = c then some B else h.get c := by
  unfold St.blk; exact Tr.get_set _ _ _ _
end Go.Abs
