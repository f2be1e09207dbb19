/-
  The walk of the reference's Marks.
-/
import Derived.Test.YthcdmnndhjbbfaaDoorLexU
set_option linter.unusedVariables false
set_option linter.unusedSimpArgs false
namespace Go.Proofs.YthcdmnndhjbbfaaDoor.X
open Go.RowKit
set_option maxHeartbeats 8000000 in
set_option maxRecDepth 100000 in
theorem refMarks_any (k : Nat) (hk : k ≤ 17) (w : World) :
    Calls Tryd.prog 41 #[.int .i64 k] w fun e w' => e = .returned (.string ⟨(marksL.getD k []).toArray⟩) ∧ w = w' := by
  have h : k = 0 ∨ k = 1 ∨ k = 2 ∨ k = 3 ∨ k = 4 ∨ k = 5 ∨ k = 6 ∨ k = 7 ∨ k = 8 ∨ k = 9 ∨ k = 10 ∨ k = 11 ∨ k = 12 ∨ k = 13 ∨ k = 14 ∨ k = 15 ∨ k = 16 ∨ k = 17 := by omega
  rcases h with rfl | rfl | rfl | rfl | rfl | rfl | rfl | rfl | rfl | rfl | rfl | rfl | rfl | rfl | rfl | rfl | rfl | rfl
  all_goals
    go_enter Tryd.func41, Tryd.ntmps41
    go_wp2
    go_ret
    first | exact ⟨rfl, rfl⟩ | exact ⟨by kernel_rfl, rfl⟩ | (refine ⟨?_, rfl⟩; simp [marksL]; rfl)

end Go.Proofs.YthcdmnndhjbbfaaDoor.X
