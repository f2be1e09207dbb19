/-
  A row of tokens that grows; the faults' codes.
-/
import Derived.Test.YtghhnnbbjlipcaaGreatDoorLexM
import Derived.Test.YtghhnnbbjlipcaaGreatDoorLexPlain
set_option linter.unusedVariables false
set_option linter.unusedSimpArgs false
namespace Go.Proofs.YtghhnnbbjlipcaaGreatDoor.X
open Go.RowKit
/-- The cells of a row of tokens. -/
def tokRow (ts : List Tk) : List Value := ts.flatMap fun t => (tokCells t).toList
theorem tokRow_snoc (ts : List Tk) (t : Tk) : tokRow (ts ++ [t]) = tokRow ts ++ (tokCells t).toList := by simp [tokRow]
/-- A slice of tokens of the call's own. -/
abbrev TokSl (w : World) (base : Nat) (v : Value) (ts : List Tk) : Prop := w.ownsRow base 73 5 v ts.length (tokRow ts)
theorem infoTok : (Tryz.prog.info? 73).map (fun i => (i.zero, i.size, i.bytes)) = some (some (.agg zeroCells), 5, 48) := by kernel_rfl



end Go.Proofs.YtghhnnbbjlipcaaGreatDoor.X
