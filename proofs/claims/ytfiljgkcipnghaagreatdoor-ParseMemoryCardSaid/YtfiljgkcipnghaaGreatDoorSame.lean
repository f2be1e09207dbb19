/-
  The walk of SameTokens; tokens that are read.
-/
import Derived.Test.YtfiljgkcipnghaaGreatDoorScan
import Derived.Laws.StructEq
set_option linter.unusedVariables false
set_option linter.unusedSimpArgs false
namespace Go.Proofs.YtfiljgkcipnghaaGreatDoor.X
open Go.RowKit
/-- A slice of tokens that reads as ts. -/
def TokAt (w : World) (v : Value) (ts : List Tk) : Prop :=
  (v = .slice none 0 0 ∧ ts = []) ∨ ∃ g cap, v = .slice (some ⟨g, 0, none⟩) ts.length cap ∧ g < w.heap.size ∧ ∀ k (h : k < ts.length) j u, (tokCells ts[k]).toList[j]? = some u → w.cell? ⟨g, k * 5 + j, none⟩ = some u
theorem tokRow_at (ts : List Tk) : ∀ (k : Nat) (h : k < ts.length) (j : Nat), j < 5 → (tokRow ts)[k * 5 + j]? = (tokCells ts[k]).toList[j]? := by
  induction ts with
  | nil => intro k h; simp at h
  | cons t ts ih =>
    intro k h j hj
    have e : tokRow (t :: ts) = (tokCells t).toList ++ tokRow ts := by simp [tokRow]
    have hl : (tokCells t).toList.length = 5 := rfl
    rw [e]
    cases k with
    | zero => rw [List.getElem?_append_left (by rw [hl]; omega)]; simp
    | succ k =>
      rw [List.getElem?_append_right (by rw [hl]; omega), hl, show (k + 1) * 5 + j - 5 = k * 5 + j by omega]
      have := ih k (by simpa using h) j hj
      simpa using this
theorem tokAt_of_own {w : World} {base : Nat} {v : Value} {ts : List Tk} (h : TokSl w base v ts) : TokAt w v ts := by
  rcases h.2 with ⟨rfl, h0⟩ | ⟨g, cap, cur, rfl, _, hg, _⟩
  · exact .inl ⟨rfl, List.eq_nil_of_length_eq_zero h0⟩
  · refine .inr ⟨g, cap, rfl, (Array.getElem?_eq_some_iff.1 hg).1, fun k hk j u hu => ?_⟩
    have hj : j < 5 := by have := (List.getElem?_eq_some_iff.1 hu).1; exact this
    have := h.cells (g := g) rfl (k * 5 + j) u (by rw [tokRow_at ts k hk j hj]; exact hu)
    rw [← this]
    unfold Addr.add
    dsimp only
    split
    · rename_i h0
      rw [h0]
    · rw [Nat.zero_add]
theorem TokAt.kept {w w' : World} {v : Value} {ts : List Tk} (h : TokAt w v ts) (hb : Below w.heap.size w w') : TokAt w' v ts := by
  rcases h with h | ⟨g, cap, h1, h2, h3⟩
  · exact .inl h
  · exact .inr ⟨g, cap, h1, Nat.lt_of_lt_of_le h2 hb.size, fun k hk j u hu => (World.cell?_of_block (a := ⟨g, k * 5 + j, none⟩) (hb.block g h2)).trans (h3 k hk j u hu)⟩
theorem TokAt.slice {w : World} {v : Value} {ts : List Tk} (h : TokAt w v ts) : ∃ a cap, v = .slice a ts.length cap := by
  rcases h with ⟨rfl, rfl⟩ | ⟨g, cap, h1, _⟩
  · exact ⟨none, 0, rfl⟩
  · exact ⟨_, cap, h1⟩

end Go.Proofs.YtfiljgkcipnghaaGreatDoor.X
