/-
  The walk of form.
-/
import Derived.Test.YtfiljgkcipnghaaGreatDoorParWake
import Derived.Test.YtfiljgkcipnghaaGreatDoorPlAll
import Derived.Laws.AppendOwnNone
set_option linter.unusedVariables false
set_option linter.unusedSimpArgs false
namespace Go.Proofs.YtfiljgkcipnghaaGreatDoor.X
open Go.RowKit
theorem partRow_at : ∀ (ps : List PD) (kv : List Value) (hl : kv.length = ps.length) (k : Nat) (hk : k < ps.length) (j : Nat), j < 4 → (partRow ps kv)[k * 4 + j]? = (partCells ps[k] (kv.getD k undef))[j]?
  | [], _, _, k, hk, _, _ => by simp at hk
  | p :: ps, [], hl, _, _, _, _ => by simp at hl
  | p :: ps, v :: kv, hl, k, hk, j, hj => by
    have h4 : (partCells p v).length = 4 := rfl
    simp only [partRow]
    cases k with
    | zero => rw [List.getElem?_append_left (by rw [h4]; omega)]; simp
    | succ k =>
      rw [List.getElem?_append_right (by rw [h4]; omega), h4, show (k + 1) * 4 + j - 4 = k * 4 + j by omega]
      have := partRow_at ps kv (by simpa using hl) k (by simpa using hk) j hj
      simpa using this
theorem RowIn.shp {w : World} {base e size n : Nat} {v : Value} {xs : List Value} (h : RowIn w base e size v n xs) : ∃ a, v = .slice a n n := by
  rcases h.at_ with ⟨h1, h2⟩ | ⟨g, cur, h1, _⟩
  · exact ⟨none, by rw [h1, h2]⟩
  · exact ⟨_, h1⟩
/-- The cells of a part of a tree that lies there. -/
theorem TreeAt.part {w : World} {base : Nat} {vp vo : Value} {kv : List Value} {ps : List PD} {offs : List Nat} (h : TreeAt w base vp vo kv ps offs) {k : Nat} (hk : k < ps.length) :
    ∃ g a c, vp = .slice (some ⟨g, 0, none⟩) ps.length ps.length ∧ g < w.heap.size ∧ kv.getD k undef = .slice a ps[k].kids.length c ∧ w.cell? ⟨g, k * 4, none⟩ = some (.int .i64 ps[k].kind) ∧ w.cell? ⟨g, k * 4 + 1, none⟩ = some (.string ⟨ps[k].text.toArray⟩) ∧
      w.cell? ⟨g, k * 4 + 2, none⟩ = some (.int .i64 ps[k].num) ∧ w.cell? ⟨g, k * 4 + 3, none⟩ = some (.slice a ps[k].kids.length c) ∧ IntsAt w (.slice a ps[k].kids.length c) (ps[k].kids.map fun i : Nat => (i : Int)) := by
  obtain ⟨g, h1, h2, h3, h4⟩ := h.parts.form (by omega)
  obtain ⟨a, c, hv⟩ := own_form (h.kids k hk)
  have hi := kid_ints (h.kids k hk)
  rw [hv] at hi
  have hc : ∀ j u, j < 4 → (partCells ps[k] (.slice a ps[k].kids.length c))[j]? = some u → w.cell? ⟨g, k * 4 + j, none⟩ = some u := fun j u hj hu => by
    rw [h4 (k * 4 + j) (by omega), partRow_at ps kv h.klen k hk j hj, hv]; exact hu
  exact ⟨g, a, c, h1, h3, hv, hc 0 _ (by omega) rfl, hc 1 _ (by omega) rfl, hc 2 _ (by omega) rfl, hc 3 _ (by omega) rfl, hi⟩

end Go.Proofs.YtfiljgkcipnghaaGreatDoor.X
