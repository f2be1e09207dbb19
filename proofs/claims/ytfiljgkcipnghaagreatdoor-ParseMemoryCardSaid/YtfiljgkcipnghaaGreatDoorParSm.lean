/-
  The walk of Same: two trees of the same parts.
-/
import Derived.Test.YtfiljgkcipnghaaGreatDoorParFo
import Derived.Test.YtfiljgkcipnghaaGreatDoorParWake
set_option linter.unusedVariables false
set_option linter.unusedSimpArgs false
namespace Go.Proofs.YtfiljgkcipnghaaGreatDoor.X
open Go.RowKit
theorem ints_cell {w : World} {a : Option Addr} {n c : Nat} {xs : List Int} (h : IntsAt w (.slice a n c) xs) {j : Nat} (hj : j < xs.length) : ∃ g o, a = some ⟨g, o, none⟩ ∧ g < w.heap.size ∧ w.cell? ⟨g, o + j, none⟩ = some (.int .i64 xs[j]) := by
  rcases h with ⟨rfl, _⟩ | ⟨g, o, cap, h1, h2, h3⟩
  · simp at hj
  · exact ⟨g, o, by injection h1, h2, h3 j hj⟩

end Go.Proofs.YtfiljgkcipnghaaGreatDoor.X
