/- append, copy. -/
import Derived.Test.YtmppkccbjmeihaaGreatAb12
namespace Go.Abs
set_option autoImplicit true
set_option relaxedAutoImplicit true
set_option linter.unusedVariables false
set_option linter.unusedSimpArgs false
set_option linter.unusedSectionVars false
open Go.RowKit

section
variable {P : Program} (w : World)
theorem zeroCells_made (z : Array Value) (n : Nat) : Builtin.zeroCells z n = madeCells z (n * z.size) := rfl
/-- What is put behind: as 'Src', or n zeros. -/
def Put (P : Program) (e tx : TypeId) (i : TypeInfo) (z : Value) (x : Value) (n : Nat) (news : List Value) (w : World) : Prop :=
  Src P i.size tx x n news w ∨ (∃ k k', P.underlying tx = some (.int k) ∧ x = .int k' (n : Int) ∧ n ≤ 281474976710656 ∧ n * i.bytes ≤ 281474976710656 ∧ z.cells.size = i.size ∧ news = (madeCells z.cells (n * z.cells.size)).toList ∧ ∀ u ∈ news, u.oneCell' = true)
theorem Put.length {e tx : TypeId} {i : TypeInfo} {z x : Value} {n : Nat} {news : List Value} (h : Put P e tx i z x n news w) : news.length = n * i.size := by
  rcases h with h | ⟨k, k', _, _, _, _, h1, h2, _⟩
  · exact h.newsLen
  · rw [h2]; simp [madeCells, h1]
theorem Put.one {e tx : TypeId} {i : TypeInfo} {z x : Value} {n : Nat} {news : List Value} (h : Put P e tx i z x n news w) : ∀ u ∈ news, u.oneCell' = true := by
  rcases h with h | ⟨k, k', _, _, _, _, h1, h2, h3⟩
  · exact h.one
  · exact h3

theorem run_put_room (t tx ty e : TypeId) (i : TypeInfo) (z : Value) (ht : P.underlying t = some (.slice e)) (hi : P.info? e = some i) (hz : i.zero = some z) (b off sLen sCap : Nat) (x : Value) (n : Nat) (news : List Value) (hs : Put P e tx i z x n news w)
    (hroom : sLen + n ≤ sCap) (hc : ∀ j, j < news.length → (w.cell? ⟨b, off + sLen * i.size + j, none⟩).isSome = true) (hf : ∀ j, j < news.length → w.frozen? ⟨b, off + sLen * i.size + j, none⟩ = false) :
    (Builtin.append_ #[t, tx] ty #[.slice (some ⟨b, off, none⟩) sLen sCap, x]).run P w = .ok (.slice (some ⟨b, off, none⟩) (sLen + n) sCap) (w.setCells b (off + sLen * i.size) news) := by
  have hone := hs.one
  rcases hs with hs | ⟨k, k', hk, rfl, h1, h2, h3, rfl, h4⟩
  · exact run_append_room_src w t tx ty e i ht hi b off sLen sCap x n news hs hroom hc hf
  · have hst := run_storeCells_cells (P := P) b (off + sLen * i.size) _ 0 w (by simpa using hc) (by simpa using hf) hone
    simp only [Nat.add_zero] at hst
    have wl : IntKind.i64.wrap (n : Int) = n := by rw [IntKind.wrap_i64]; omega
    have n1 : ¬ ((n : Int) < 0) := by omega
    have n2 : ¬ (281474976710656 < (n : Int) * (i.bytes : Int)) := by
      have : ((n * i.bytes : Nat) : Int) ≤ 281474976710656 := by omega
      rw [Int.natCast_mul] at this; omega
    by_cases h0 : n * i.size = 0
    · have e0 : (madeCells z.cells (n * z.cells.size)).toList = [] := by rw [h3, h0]; simp [madeCells]
      rw [e0]
      simp [Builtin.append_, run_underlying ht, run_underlying hk, sizeOf, typeInfo, hi, asInt, asIntOf, wl, n1, n2, hroom, h0, storeCells, World.setCells]
    · simp [Builtin.append_, run_underlying ht, run_underlying hk, sizeOf, typeInfo, hi, asInt, asIntOf, wl, n1, n2, hroom, h0, zeroValue, hz, zeroCells_made, Addr.add_lit, hst]

theorem run_put_grow (t tx ty e : TypeId) (i : TypeInfo) (z : Value) (ht : P.underlying t = some (.slice e)) (hi : P.info? e = some i) (hz : i.zero = some z) (base : Option Addr) (sLen sCap : Nat) (olds : List Value)
    (hold : (Builtin.firstCells i.size sLen (.slice base sLen sCap)).run P w.drew = .ok olds.toArray w.drew) (x : Value) (n : Nat) (news : List Value) (hs : Put P e tx i z x n news w)
    (hg : sCap < sLen + n) (h63 : ((sLen + n : Nat) : Int) ≤ 9223372036854775807) (hfit : Builtin.nextslicecap (sLen + n) sCap * i.bytes ≤ 281474976710656) :
    (Builtin.append_ #[t, tx] ty #[.slice base sLen sCap, x]).run P w =
      .ok (.slice (some ⟨w.heap.size, 0, none⟩) (sLen + n) (grownCap w (sLen + n) sCap e))
        (w.drew.alloc (.cells ((olds ++ news).toArray ++ Builtin.zeroCells z.cells (grownCap w (sLen + n) sCap e - (sLen + n))) e)) := by
  rcases hs with hs | ⟨k, k', hk, rfl, h1, h2, h3, rfl, h4⟩
  · exact run_append_grow_src w t tx ty e i z ht hi hz base sLen sCap olds hold x n news hs hg h63 hfit
  · have wl : IntKind.i64.wrap (n : Int) = n := by rw [IntKind.wrap_i64]; omega
    have n1 : ¬ ((n : Int) < 0) := by omega
    have n2 : ¬ (281474976710656 < (n : Int) * (i.bytes : Int)) := by
      have : ((n * i.bytes : Nat) : Int) ≤ 281474976710656 := by omega
      rw [Int.natCast_mul] at this; omega
    have hn : ¬ (sLen + n ≤ sCap) := by omega
    have h63' : ¬ (9223372036854775807 < ((sLen : Int) + (n : Int))) := by omega
    have h48' : ¬ (281474976710656 < Builtin.nextslicecap (sLen + n) sCap * i.bytes) := by omega
    by_cases h0 : n * i.size = 0
    · have e0 : (madeCells z.cells (n * z.cells.size)).toList = [] := by rw [h3, h0]; simp [madeCells]
      rw [e0]
      simp [Builtin.append_, run_underlying ht, run_underlying hk, sizeOf, typeInfo, zeroValue, hi, hz, asInt, asIntOf, wl, n1, n2, hn, h63', h48', Question.forced, hold, newRow, grownCap, h0]
    · simp [Builtin.append_, run_underlying ht, run_underlying hk, sizeOf, typeInfo, zeroValue, hi, hz, asInt, asIntOf, wl, n1, n2, hn, h63', h48', Question.forced, hold, newRow, grownCap, h0, zeroCells_made]
      try (congr 2
           apply Array.ext'
           simp [List.append_assoc])

/-- Nothing, behind nil. -/
theorem run_put_nil (t tx ty e : TypeId) (i : TypeInfo) (z : Value) (ht : P.underlying t = some (.slice e)) (hi : P.info? e = some i) (hz : i.zero = some z) (x : Value) (news : List Value) (hs : Put P e tx i z x 0 news w) :
    (Builtin.append_ #[t, tx] ty #[.slice none 0 0, x]).run P w = .ok (.slice none 0 0) w := by
  rcases hs with hs | ⟨k, k', hk, rfl, h1, h2, h3, rfl, h4⟩
  · rcases hs.kind with ⟨e', hk⟩ | hk <;> simp [Builtin.append_, run_underlying ht, run_underlying hk, sizeOf, typeInfo, hi, hs.len, hs.cells]
  · have wl : IntKind.i64.wrap 0 = 0 := rfl
    simp [Builtin.append_, run_underlying ht, run_underlying hk, sizeOf, typeInfo, hi, asInt, asIntOf, wl]

theorem growBy_le (need : Nat) : ∀ (r c : Nat), c ≤ 2 * need + 768 → Builtin.growBy need r c ≤ 2 * need + 768
  | 0, c, h => h
  | r + 1, c, h => by
    unfold Builtin.growBy
    split
    · exact h
    · exact growBy_le need r _ (by omega)
theorem nextslicecap_le {need old : Nat} (h : old < need) : Builtin.nextslicecap need old ≤ 2 * need + 768 := by
  unfold Builtin.nextslicecap
  split
  · omega
  · split
    · omega
    · exact growBy_le need 4 old (by omega)
end
end Go.Abs
