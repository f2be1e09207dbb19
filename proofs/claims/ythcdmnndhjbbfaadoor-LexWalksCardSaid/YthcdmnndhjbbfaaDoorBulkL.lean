/-
  What the bound of the second form gives: our own lemmas.
-/
import Derived.Test.YthcdmnndhjbbfaaDoorRows
set_option linter.unusedVariables false
namespace Go.Proofs.YthcdmnndhjbbfaaDoor.X
theorem ub_pos {H : Type} (d : DataW H) : 0 < Rows.uptoBulk d := by
  cases d <;> (try simp [Rows.uptoBulk])
  rename_i l
  cases l <;> simp [Rows.uptoBulk]
theorem ub_len {H : Type} : ∀ l : List (DataW H), l.length ≤ Rows.uptoBulkAll l
  | [] => by simp [Rows.uptoBulkAll]
  | d :: l => by
    have h1 := ub_pos d
    have h2 := ub_len l
    simp only [Rows.uptoBulkAll, List.length_cons]; omega
theorem ub_mem {H : Type} {d : DataW H} : ∀ {l : List (DataW H)}, d ∈ l → Rows.uptoBulk d ≤ Rows.uptoBulkAll l
  | x :: l, h => by
    simp only [Rows.uptoBulkAll]
    rcases List.mem_cons.1 h with rfl | h
    · omega
    · have := ub_mem h; omega
theorem ub_slice {H : Type} (a b : List (DataW H)) : Rows.uptoBulk (.slice a b) = Rows.uptoBulkAll a + Rows.uptoBulkAll b + 1 := by simp [Rows.uptoBulk]
theorem ub_str {H : Type} (l : List UInt8) : Rows.uptoBulk (DataW.lit (H := H) (.string l)) = l.length + 1 := by simp [Rows.uptoBulk]
theorem ub_bound {H : Type} {l : List (DataW H)} (h : Rows.uptoSmall H l = true) : Rows.uptoBulkAll l ≤ 1048576 := of_decide_eq_true h

end Go.Proofs.YthcdmnndhjbbfaaDoor.X
