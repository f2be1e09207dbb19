/-
  The walk of gap; its five gaps part two tokens.
-/
import Derived.Test.YtghhnnbbjlipcaaDoorParWake
import Derived.Test.YtghhnnbbjlipcaaDoorPlBlanks
set_option linter.unusedVariables false
set_option linter.unusedSimpArgs false
namespace Go.Proofs.YtghhnnbbjlipcaaDoor.X
open Go.RowKit
def gapG (n : Nat) : Bs := if n % 5 = 0 then [32] else if n % 5 = 1 then [10] else if n % 5 = 2 then [32, 35, 32, 116, 114, 117, 101, 32, 41, 32, 125, 32, 34, 32, 38, 38, 32, 10] else if n % 5 = 3 then [9, 13, 32] else [35, 10]
theorem gp_gap (n : Nat) : Gp (gapG n) := by
  unfold gapG
  split
  · exact ⟨by simp, rfl, fun y => by simp [gapN, blankB]; omega⟩
  split
  · exact ⟨by simp, rfl, fun y => by simp [gapN, blankB]; omega⟩
  split
  · exact ⟨by simp, rfl, fun y => by simp [gapN, blankB]; omega⟩
  split
  · exact ⟨by simp, rfl, fun y => by simp [gapN, blankB]; omega⟩
  · exact ⟨by simp, rfl, fun y => by simp [gapN, blankB]; omega⟩
theorem gap_len (n : Nat) : (gapG n).length ≤ 18 := by
  unfold gapG
  repeat' split
  all_goals simp
set_option maxHeartbeats 4000000 in
set_option maxRecDepth 100000 in
theorem gap_any (n : Nat) (hn : n ≤ 9223372036854775807) (w : World) : Calls Tryd.prog 13 #[.int .i64 (n : Nat)] w fun e w' => e = .returned (.string ⟨(gapG n).toArray⟩) ∧ w' = w := by
  have ht : (n : Int).tmod 5 = ((n % 5 : Nat) : Int) := by rw [Int.tmod_eq_emod_of_nonneg (by omega)]; rfl
  have h5 : n % 5 < 5 := Nat.mod_lt _ (by omega)
  unfold gapG
  generalize n % 5 = r at ht h5
  have hr : r = 0 ∨ r = 1 ∨ r = 2 ∨ r = 3 ∨ r = 4 := by omega
  rcases hr with rfl | rfl | rfl | rfl | rfl
  all_goals
    clear h5
    go_enter Tryd.func13, Tryd.ntmps13
    go_wp2
    go_ret
    exact ⟨rfl, rfl⟩

end Go.Proofs.YtghhnnbbjlipcaaDoor.X
