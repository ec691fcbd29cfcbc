/-
  More memory words: a cell that is kept, a store into a row of the call's own. No program is named here.
-/
import Derived.Test.YtkngjgblfappoaaGreatDoorMem2
import Derived.Test.YtkngjgblfappoaaGreatDoorRep
namespace Go.Proofs.YtkngjgblfappoaaGreatDoor
open Go.RowKit (Below intOf Hid)

theorem Keeps.cell {M : List Nat} {w w' : World} (k : Keeps M w w') {a : Addr} {v : Value} (c : w.cell? a = some v) (hn : a.block ∉ M) : w'.cell? a = some v := by
  rw [World.cell?_of_block (w := w) (k.block _ (World.block_lt_of_cell? w _ c) hn)]; exact c

/-- A store into a row of the call's own, at one cell each. -/
theorem own_set {w : World} {B n c i : Nat} {e : TypeId} {A : Option Addr} {xs : List Value} (h : w.ownsRow B e 1 (.slice A n c) n xs) (hi : i < n) (u : Value) :
    ∃ g, A = some ⟨g, 0, none⟩ ∧ B ≤ g ∧ g < w.heap.size ∧ (∀ j v, xs[j]? = some v → w.cell? ⟨g, j, none⟩ = some v) ∧ (∀ j, w.frozen? ⟨g, j, none⟩ = false) ∧ (w.setCell ⟨g, i, none⟩ u).ownsRow B e 1 (.slice A n c) n (xs.set i u) := by
  obtain ⟨g, cap, cur, hv, hb, hg, h1, h2, h3, h4⟩ := own_blk h (by omega)
  injection hv with hA _ hc
  subst hA hc
  refine ⟨g, rfl, hb, hg.lt, ?_, fun j => hg.free j, own_of_blk (cur := cur.set i u) hb ?_ h1 h2 (by simpa using h3) ?_⟩
  · intro j v hj
    have hl := (List.getElem?_eq_some_iff.1 hj).1
    rw [hg.cell, List.getElem?_toArray]
    rw [← h4, List.getElem?_take] at hj
    split at hj
    · exact hj
    · cases hj
  · have := hg.set i u
    rw [List.setIfInBounds_toArray] at this
    exact this
  · rw [← h4, List.take_set]
theorem ptrs_set (ps : List Nat) (k q : Nat) : (List.map ptr ps).set k (ptr q) = List.map ptr (ps.set k q) := by
  rw [List.map_set]
theorem own_at {w : World} {B n c g : Nat} {e : TypeId} {xs : List Value} (h : w.ownsRow B e 1 (.slice (some ⟨g, 0, none⟩) n c) n xs) {j : Nat} {v : Value} (hj : xs[j]? = some v) : w.cell? ⟨g, j, none⟩ = some v := by
  have hl := (List.getElem?_eq_some_iff.1 hj).1
  have hn : xs.length = n * 1 := h.1
  obtain ⟨g', hA, _, _, hc, _⟩ := own_set h (i := j) (by omega) v
  injection hA with hA
  injection hA with hA
  subst hA
  exact hc j v hj
theorem own_put {w : World} {B n c g i : Nat} {e : TypeId} {xs : List Value} (h : w.ownsRow B e 1 (.slice (some ⟨g, 0, none⟩) n c) n xs) (hi : i < n) (u : Value) :
    w.frozen? ⟨g, i, none⟩ = false ∧ (w.setCell ⟨g, i, none⟩ u).ownsRow B e 1 (.slice (some ⟨g, 0, none⟩) n c) n (xs.set i u) := by
  obtain ⟨g', hA, _, _, _, hf, ho⟩ := own_set h hi u
  injection hA with hA
  injection hA with hA
  subst hA
  exact ⟨hf i, ho⟩
end Go.Proofs.YtkngjgblfappoaaGreatDoor
