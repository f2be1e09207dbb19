/-
  Plain law: the same descent over tokens that agree as far as it reads; further on, deeper, behind other parts.
-/
import Derived.Test.YtfiljgkcipnghaaGreatDoorParS
set_option linter.unusedVariables false
set_option linter.unusedSimpArgs false
namespace Go.Proofs.YtfiljgkcipnghaaGreatDoor.X
def un : Except PF PS → PR Unit
  | .ok S => .ok ((), S)
  | .error e => .error e
/-! ### A set. -/
/-! ### Terms, atoms, units. -/

end Go.Proofs.YtfiljgkcipnghaaGreatDoor.X
