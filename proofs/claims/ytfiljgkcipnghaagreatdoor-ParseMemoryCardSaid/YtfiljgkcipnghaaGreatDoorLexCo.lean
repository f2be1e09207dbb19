/-
  Plain law of LexCovers: gaps alone between the tokens; each token is what its own bytes say; the faults' codes and places.
-/
import Derived.Test.YtfiljgkcipnghaaGreatDoorLexPlain
import Derived.Test.YtfiljgkcipnghaaGreatDoorLexRef
import Derived.Lib.AtoiAllCases
set_option linter.unusedVariables false
set_option linter.unusedSimpArgs false
namespace Go.Proofs.YtfiljgkcipnghaaGreatDoor.X
theorem tokAt_codes {l : Bs} {i : Nat} {f : Int × Nat} (hi : i < l.length) (h : tokAt l i = .error f) : f.2 ≤ l.length ∧ 111 ≤ f.1 ∧ f.1 ≤ 115 := by
  have hne : l.drop i ≠ [] := by
    intro e
    have := congrArg List.length e
    rw [List.length_drop] at this
    simp at this; omega
  rw [tokAt_drop l i (by omega)] at h
  cases h0 : tokAt (l.drop i) 0 with
  | ok t => rw [h0] at h; cases h
  | error g =>
    rw [h0] at h
    cases h
    simp only
    have hc : 111 ≤ g.1 ∧ g.1 ≤ 115 ∧ (g.1 = 112 → g.2 = 0) := by
      cases hd : l.drop i with
      | nil => exact absurd hd hne
      | cons c r =>
        rw [hd, tokAt0] at h0
        split at h0
        · unfold textAt at h0
          split at h0
          · cases h0; simp
          · cases h0; simp
          · cases h0; simp
          · split at h0
            · cases h0; simp
            · cases h0
        split at h0
        · split at h0
          · cases h0
          · cases h0; simp
        split at h0
        · cases h0
        split at h0
        · cases h0
        · cases h0; simp
    refine ⟨?_, hc.1, hc.2.1⟩
    by_cases h112 : g.1 = 112
    · have := hc.2.2 h112; omega
    · have := tok_err_at hne h0 h112
      rw [List.length_drop] at this
      omega
theorem scanN_codes (l : Bs) : ∀ (n i : Nat) (f : Int × Nat), i ≤ l.length → (scanN l n i).2 = some f → f.2 ≤ l.length ∧ 111 ≤ f.1 ∧ f.1 ≤ 115
  | 0, i, f, hi, h => by simp [scanN] at h
  | n + 1, i, f, hi, h => by
    have hsk := skipN_le hi
    cases hr : tokAt l (skipN l i) with
    | error g =>
      rw [scanN_err hr] at h
      cases h
      have hlt : skipN l i < l.length := by
        rcases Nat.lt_or_ge (skipN l i) l.length with h1 | h1
        · exact h1
        · rw [show skipN l i = l.length by omega, tokAt_end] at hr; cases hr
      exact tokAt_codes hlt hr
    | ok t =>
      by_cases hk : t.kind = 0
      · rw [scanN_end hr hk] at h; cases h
      · rw [scanN_ok hr hk] at h
        exact scanN_codes l n t.end_ f (tok_cases hsk hr hk).2.2 h
/-- The fault of a source. -/
theorem scan_fault {l : Bs} {c : Int} {a : Nat} (h : scanL l = ([], some (c, a))) : a ≤ l.length ∧ 110 ≤ c ∧ c ≤ 115 ∧ (4096 < l.length ↔ c = 110) := by
  have hp : (prefixL l).2 = some (c, a) := by
    unfold scanL at h
    split at h
    · exact congrArg Prod.snd h
    · rename_i hs; rw [h] at hs; exact absurd rfl hs
  unfold prefixL at hp
  split at hp
  · cases hp; exact ⟨by omega, by omega, by omega, by simp; omega⟩
  · have := scanN_codes l _ 0 (c, a) (Nat.zero_le _) hp
    simp only at this
    exact ⟨this.1, by omega, this.2.2, by omega⟩

end Go.Proofs.YtfiljgkcipnghaaGreatDoor.X
