/-
  The walks of Unquote and of the reference's Unquote.
-/
import Derived.Test.YtghhnnbbjlipcaaDoorLexU
set_option linter.unusedVariables false
set_option linter.unusedSimpArgs false
namespace Go.Proofs.YtghhnnbbjlipcaaDoor.X
open Go.RowKit
def unqC (n : Nat) : Res → Except (Int × Nat) Bs
  | .error f => .error f
  | .ok t => if t.end_ < n then .error (111, t.end_) else .ok t.text
/-- What Unquote comes to. -/
def unqL (l : Bs) : Except (Int × Nat) Bs :=
  if 4096 < l.length then .error (110, 4096) else if l.head? = some 34 then unqC l.length (textAt l 0) else .error (111, 0)
def UnqAns (w : World) (r : Except (Int × Nat) Bs) (e : Ending) (w' : World) : Prop := match r with
  | .ok b => e = .returned (.tuple #[.string ⟨b.toArray⟩, .nilIface]) ∧ Below w.heap.size w w'
  | .error (c, a) => ∃ b, e = .returned (.tuple #[.string ⟨#[]⟩, .iface 62 (.pointer (some ⟨b, 0, none⟩))]) ∧ w.heap.size ≤ b ∧ w'.heap[b]? = some (faultObj c a) ∧ Below w.heap.size w w'
/-- What the reference's Unquote answers. -/
def unqV : Except (Int × Nat) Bs → Value
  | .ok b => .tuple #[.string ⟨b.toArray⟩, .int .i64 0, .int .i64 0]
  | .error (c, a) => .tuple #[.string ⟨#[]⟩, .int .i64 c, .int .i64 (a : Nat)]
theorem strL_le : ∀ (n : Nat) (l : Bs) (off : Nat) (acc : Bs) (b : Bs) (e : Nat), l.length ≤ n → strL l off acc = .done b e → e ≤ off + l.length := by
  intro n
  induction n with
  | zero =>
    intro l off acc b e hn h
    have : l = [] := List.eq_nil_of_length_eq_zero (by omega)
    subst this
    simp [strL] at h
  | succ n ih =>
    intro l off acc b e hn h
    cases l with
    | nil => simp [strL] at h
    | cons c l =>
      simp only [List.length_cons] at hn ⊢
      by_cases c34 : c = 34
      · subst c34
        rw [strL_end] at h
        cases h; omega
      · by_cases c32 : c < 32
        · rw [strL_low _ _ _ _ c34 c32] at h; cases h
        · by_cases c92 : c = 92
          · subst c92
            rw [strL_esc] at h
            cases hx : escL l with
            | none => rw [hx] at h; cases h
            | some x =>
              obtain ⟨y, k⟩ := x
              rw [hx] at h
              simp only [escK] at h
              have h3 := escL_len hx
              have := ih _ _ _ _ _ (by simp; omega) h
              simp only [List.length_drop, List.length_cons] at this
              omega
          · rw [strL_char _ _ _ _ c34 c32 c92] at h
            have := ih _ _ _ _ _ (by omega) h
            omega

theorem head_at (s : ByteArray) : s.data.toList.head? = some 34 ↔ atB s 0 = 34 := by
  by_cases h : 0 < s.size
  · have hD := drop_at s 0 h
    rw [List.drop_zero] at hD
    rw [atB_lt h, hD]; simp
  · rw [atB_ge h]
    have : s.data.toList = [] := List.eq_nil_of_length_eq_zero (by rw [Array.length_toList]; show s.size = 0; omega)
    rw [this]; simp
end Go.Proofs.YtghhnnbbjlipcaaDoor.X
