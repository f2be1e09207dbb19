/-
  The walk of sameInts.
  The walk of wakes.
-/
import Derived.Test.YtghhnnbbjlipcaaGreatDoorParRun
import Derived.Test.YtghhnnbbjlipcaaGreatDoorFault
set_option linter.unusedVariables false
set_option linter.unusedSimpArgs false
namespace Go.Proofs.YtghhnnbbjlipcaaGreatDoor.X
open Go.RowKit
/-- A slice of whole numbers lies there. -/
def IntsAt (w : World) (v : Value) (xs : List Int) : Prop :=
  (xs = [] ∧ ∃ a cap, v = .slice a 0 cap) ∨ ∃ g o cap, v = .slice (some ⟨g, o, none⟩) xs.length cap ∧ g < w.heap.size ∧ ∀ k (h : k < xs.length), w.cell? ⟨g, o + k, none⟩ = some (.int .i64 xs[k])
theorem IntsAt.below {w w' : World} {v : Value} {xs : List Int} (h : IntsAt w v xs) (hb : Below w.heap.size w w') : IntsAt w' v xs := by
  rcases h with h | ⟨g, o, cap, h1, h2, h3⟩
  · exact .inl h
  · exact .inr ⟨g, o, cap, h1, Nat.lt_of_lt_of_le h2 hb.size, fun k hk => (World.cell?_of_block (a := ⟨g, o + k, none⟩) (hb.block g h2)).trans (h3 k hk)⟩
theorem IntsAt.form {w : World} {v : Value} {xs : List Int} (h : IntsAt w v xs) : ∃ a cap, v = .slice a xs.length cap := by
  rcases h with ⟨rfl, a, cap, h⟩ | ⟨g, o, cap, h, _⟩
  · exact ⟨a, cap, h⟩
  · exact ⟨_, cap, h⟩
theorem ints_own {w : World} {base e n : Nat} {v : Value} {xs : List Int} (h : w.ownsRow base e 1 v n (xs.map fun x => Value.int .i64 x)) : IntsAt w v xs := by
  have hl : xs.length = n := by have := h.1; simpa using this
  rcases h.2 with ⟨h1, h2⟩ | ⟨g, cap, cur, h1, h2, h3, h4⟩
  · exact .inl ⟨List.eq_nil_of_length_eq_zero (by omega), none, 0, by rw [h1]⟩
  · refine .inr ⟨g, 0, cap, by rw [h1, hl], (Array.getElem?_eq_some_iff.1 h3).1, fun k hk => ?_⟩
    rw [h1] at h
    rw [Nat.zero_add, h.cellAt k (by omega), List.getElem?_map, List.getElem?_eq_getElem hk]
    rfl

end Go.Proofs.YtghhnnbbjlipcaaGreatDoor.X
set_option linter.unusedVariables false
set_option linter.unusedSimpArgs false
namespace Go.Proofs.YtghhnnbbjlipcaaGreatDoor.X
open Go.RowKit
theorem RowIn.form {w : World} {base e size n : Nat} {v : Value} {xs : List Value} (h : RowIn w base e size v n xs) (hn : 0 < n) : ∃ g, v = .slice (some ⟨g, 0, none⟩) n n ∧ base ≤ g ∧ g < w.heap.size ∧ ∀ j, j < n * size → w.cell? ⟨g, j, none⟩ = xs[j]? := by
  rcases h.at_ with ⟨_, h0⟩ | ⟨g, cur, h1, h2, h3, h4, h5⟩
  · omega
  · refine ⟨g, h1, h2, (Array.getElem?_eq_some_iff.1 h3).1, fun j hj => ?_⟩
    rw [Lib.cell_of_heap h3 j, ← h5, List.getElem?_take, if_pos hj, Array.getElem?_toList]
theorem kid_ints {w : World} {base : Nat} {v : Value} {kids : List Nat} (h : kidRow w base v kids) : IntsAt w v (kids.map fun i : Nat => (i : Int)) := by
  refine ints_own (base := base) (e := 3) (n := kids.length) ?_
  rw [List.map_map]; exact h
theorem cell_keep {w w' : World} {base g j : Nat} {v : Value} (hb : Below base w w') (hg : g < base) (h : w.cell? ⟨g, j, none⟩ = some v) : w'.cell? ⟨g, j, none⟩ = some v :=
  (World.cell?_of_block (a := ⟨g, j, none⟩) (hb.block g hg)).trans h

end Go.Proofs.YtghhnnbbjlipcaaGreatDoor.X
