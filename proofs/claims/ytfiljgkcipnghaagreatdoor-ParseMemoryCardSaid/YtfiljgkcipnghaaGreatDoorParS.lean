/-
  Plain law: the descent over two rows of tokens that agree as far as it reads, the one further on, deeper and behind other parts.
-/
import Derived.Test.YtfiljgkcipnghaaGreatDoorParM
set_option linter.unusedVariables false
set_option linter.unusedSimpArgs false
namespace Go.Proofs.YtfiljgkcipnghaaGreatDoor.X
/-! ### Where a fault lies; what is taken. -/
def Takes {α : Type} (f : PS → PR α) : Prop := ∀ S a S', f S = .ok (a, S') → S.pos < S'.pos
theorem then_err {β : Type} {x : Except PF PS} {f : PS → PR β} {e : PF} (h : thenS x f = .error e) : x = .error e ∨ ∃ S1, x = .ok S1 ∧ f S1 = .error e := by
  cases x with
  | error g => left; injection h with h; rw [h]
  | ok S1 => right; exact ⟨S1, rfl, h⟩
theorem bind_err {α β : Type} {x : PR α} {f : α → PS → PR β} {e : PF} (h : bindS x f = .error e) : x = .error e ∨ ∃ a S1, x = .ok (a, S1) ∧ f a S1 = .error e := by
  cases x with
  | error g => left; injection h with h; rw [h]
  | ok p => obtain ⟨a, S1⟩ := p; right; exact ⟨a, S1, rfl, h⟩
theorem put_err {a : Nat} {p : PD} {S : PS} {e : PF} (h : putP a p S = .error e) : False := by cases h
theorem owned_takes {ts : List Tk} : Takes (ownedP ts) := by
  intro S a S' h
  unfold ownedP ownK ownN at h
  split at h
  · cases h
  split at h
  · obtain ⟨s, S2, h2, h⟩ := bind_ok h
    obtain ⟨S3, h3, h⟩ := then_ok h
    obtain ⟨rfl, rfl⟩ := put_ok h
    rw [text_fair h2] at h3
    rw [mark_fair h3]
    simp [putS, X.on]; omega
  split at h
  · split at h
    · obtain ⟨rfl, rfl⟩ := put_ok h; simp [putS, X.on]; omega
    split at h
    · obtain ⟨rfl, rfl⟩ := put_ok h; simp [putS, X.on]; omega
    split at h
    · obtain ⟨rfl, rfl⟩ := put_ok h; simp [putS, X.on]; omega
    split at h
    · obtain ⟨S3, h3, h⟩ := then_ok h
      obtain ⟨s, S4, h4, h⟩ := bind_ok h
      obtain ⟨S5, h5, h⟩ := then_ok h
      obtain ⟨rfl, rfl⟩ := put_ok h
      rw [mark_fair h3] at h4
      rw [text_fair h4] at h5
      rw [mark_fair h5]
      simp [putS, X.on]; omega
    · cases h
  · cases h
theorem set_takes {ts : List Tk} : Takes (setP ts) := by
  intro S a S' h
  unfold setP at h
  obtain ⟨S1, h1, h⟩ := then_ok h
  obtain ⟨ks, S2, h2, h⟩ := bind_ok h
  obtain ⟨rfl, rfl⟩ := put_ok h
  rw [mark_fair h1] at h2
  have := (setLoop_fair _ _ _ _ _ h2).pos
  simp only [X.on] at this
  simp [putS, X.on]; omega
theorem noLv_fair : LvFair noLv := ⟨(fun S a S' h => by cases h), (fun S a S' h => by cases h), (fun S a S' h => by cases h)⟩

end Go.Proofs.YtfiljgkcipnghaaGreatDoor.X
