/-
  Plain law: the descent over two rows of tokens that agree as far as it reads, the one further on, deeper and behind other parts.
-/
import Derived.Test.YtghhnnbbjlipcaaGreatDoorParM
set_option linter.unusedVariables false
set_option linter.unusedSimpArgs false
namespace Go.Proofs.YtghhnnbbjlipcaaGreatDoor.X
/-! ### Where a fault lies; what is taken. -/
theorem then_err {β : Type} {x : Except PF PS} {f : PS → PR β} {e : PF} (h : thenS x f = .error e) : x = .error e ∨ ∃ S1, x = .ok S1 ∧ f S1 = .error e := by
  cases x with
  | error g => left; injection h with h; rw [h]
  | ok S1 => right; exact ⟨S1, rfl, h⟩
theorem bind_err {α β : Type} {x : PR α} {f : α → PS → PR β} {e : PF} (h : bindS x f = .error e) : x = .error e ∨ ∃ a S1, x = .ok (a, S1) ∧ f a S1 = .error e := by
  cases x with
  | error g => left; injection h with h; rw [h]
  | ok p => obtain ⟨a, S1⟩ := p; right; exact ⟨a, S1, rfl, h⟩
theorem put_err {a : Nat} {p : PD} {S : PS} {e : PF} (h : putP a p S = .error e) : False := by cases h
theorem noLv_fair : LvFair noLv := ⟨(fun S a S' h => by cases h), (fun S a S' h => by cases h), (fun S a S' h => by cases h)⟩

end Go.Proofs.YtghhnnbbjlipcaaGreatDoor.X
