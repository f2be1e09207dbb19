/-
  Plain law: where a token begins and ends; what the tokens of a source come to, one by one.
-/
import Derived.Test.YthcdmnndhjbbfaaDoorLexL
set_option linter.unusedVariables false
set_option linter.unusedSimpArgs false
namespace Go.Proofs.YthcdmnndhjbbfaaDoor.X
theorem strL_bound : ∀ (n : Nat) (l : Bs) (off : Nat) (acc b : Bs) (e : Nat), l.length ≤ n → strL l off acc = .done b e → off < e ∧ e ≤ off + l.length
  | 0, l, off, acc, b, e, hn, h => by
    have : l = [] := List.eq_nil_of_length_eq_zero (by omega)
    subst this
    simp [strL] at h
  | n + 1, [], off, acc, b, e, hn, h => by simp [strL] at h
  | n + 1, c :: l, off, acc, b, e, hn, h => by
    simp only [List.length_cons] at hn ⊢
    rw [strL.eq_def] at h
    simp only at h
    split at h
    · injection h with h1 h2; omega
    split at h
    · cases h
    split at h
    · cases l with
      | nil => cases h
      | cons c1 l1 =>
        simp only [List.length_cons] at hn ⊢
        simp only at h
        split at h
        · have := strL_bound n l1 _ _ _ _ (by omega) h; omega
        split at h
        · have := strL_bound n l1 _ _ _ _ (by omega) h; omega
        split at h
        · have := strL_bound n l1 _ _ _ _ (by omega) h; omega
        split at h
        · have := strL_bound n l1 _ _ _ _ (by omega) h; omega
        split at h
        · cases l1 with
          | nil => cases h
          | cons c2 l2 =>
            cases l2 with
            | nil => cases h
            | cons c3 l3 =>
              simp only [List.length_cons] at hn ⊢
              simp only at h
              split at h
              · have := strL_bound n l3 _ _ _ _ (by omega) h; omega
              · cases h
        · cases h
    · have := strL_bound n l _ _ _ _ (by omega) h; omega
theorem runL_le (l : Bs) : (runL l).length ≤ l.length := by
  cases l with
  | nil => simp [runL]
  | cons c r =>
    simp only [runL, List.length_cons]
    have := (List.takeWhile_sublist wordB (l := r)).length_le
    omega
theorem findMark_some : ∀ (ms : List Bs) (l m : Bs), findMark l ms = some m → m ∈ ms ∧ m.isPrefixOf l = true
  | [], _, _, h => by cases h
  | a :: ms, l, m, h => by
    simp only [findMark] at h
    split at h
    · injection h with h; subst h; exact ⟨List.mem_cons_self, by assumption⟩
    · have := findMark_some ms l m h
      exact ⟨List.mem_cons_of_mem _ this.1, this.2⟩
theorem marks_pos : ∀ m ∈ marksL, 0 < m.length := by decide
/-- A token: the end, or a token that begins here and ends behind. -/
theorem tokAt_bound {l : Bs} {i : Nat} {t : Tk} (hi : i ≤ l.length) (h : tokAt l i = .ok t) :
    (i = l.length ∧ t = ⟨0, [], 0, l.length, l.length⟩) ∨ (i < l.length ∧ (t.kind = 1 ∨ t.kind = 2 ∨ t.kind = 3 ∨ t.kind = 4) ∧ t.at_ = i ∧ i < t.end_ ∧ t.end_ ≤ l.length) := by
  unfold tokAt at h
  have hdl : (l.drop i).length = l.length - i := List.length_drop
  cases hd : l.drop i with
  | nil =>
    rw [hd] at h hdl
    simp only at h
    injection h with h
    simp only [List.length_nil] at hdl
    exact .inl ⟨by omega, h.symm⟩
  | cons c r =>
    rw [hd] at h hdl
    simp only [List.length_cons] at h hdl
    have hr := runL_le (c :: r)
    have hr1 : 0 < (runL (c :: r)).length := by simp [runL]
    simp only [List.length_cons] at hr
    right
    refine ⟨by omega, ?_⟩
    split at h
    · unfold textAt at h
      split at h
      · cases h
      · cases h
      · cases h
      · rename_i b e he
        split at h
        · cases h
        · injection h with h
          subst h
          have hb := strL_bound _ _ _ _ _ _ (Nat.le_refl _) he
          rw [List.length_drop] at hb
          exact ⟨.inl rfl, rfl, by simp only; omega, by simp only; omega⟩
    have fin : ∀ q : Bool, (if q = true then (match numOf (runL (c :: r)) with
          | some n => (.ok ⟨2, [], n, i, i + (runL (c :: r)).length⟩ : Res)
          | none => .error (114, i))
        else if wordB c then .ok ⟨3, runL (c :: r), 0, i, i + (runL (c :: r)).length⟩
        else match findMark (c :: r) marksL with
          | some m => .ok ⟨4, m, 0, i, i + m.length⟩
          | none => .error (111, i)) = .ok t → (t.kind = 1 ∨ t.kind = 2 ∨ t.kind = 3 ∨ t.kind = 4) ∧ t.at_ = i ∧ i < t.end_ ∧ t.end_ ≤ l.length := by
      intro q h
      split at h
      · split at h
        · injection h with h; subst h; exact ⟨.inr (.inl rfl), rfl, by simp only; omega, by simp only; omega⟩
        · cases h
      split at h
      · injection h with h; subst h; exact ⟨.inr (.inr (.inl rfl)), rfl, by simp only; omega, by simp only; omega⟩
      split at h
      · rename_i m hm
        injection h with h
        subst h
        obtain ⟨h1, h2⟩ := findMark_some _ _ _ hm
        have h3 := marks_pos m h1
        have h4 := (List.isPrefixOf_iff_prefix.1 h2).length_le
        simp only [List.length_cons] at h4
        exact ⟨.inr (.inr (.inr rfl)), rfl, by simp only; omega, by simp only; omega⟩
      · cases h
    exact fin _ h
/-- Where the next token begins. -/
def skipN (l : Bs) (i : Nat) : Nat := i + gapN false (l.drop i)
theorem skipN_le {l : Bs} {i : Nat} (hi : i ≤ l.length) : skipN l i ≤ l.length := by
  have := gapN_le false (l.drop i)
  rw [List.length_drop] at this
  unfold skipN; omega
theorem skipN_ge (l : Bs) (i : Nat) : i ≤ skipN l i := by unfold skipN; omega
theorem scanN_err {l : Bs} {n i : Nat} {f : Int × Nat} (h : tokAt l (skipN l i) = .error f) : scanN l (n + 1) i = ([], some f) := by
  simp only [scanN]; rw [show i + gapN false (l.drop i) = skipN l i from rfl, h]
theorem scanN_end {l : Bs} {n i : Nat} {t : Tk} (h : tokAt l (skipN l i) = .ok t) (hk : t.kind = 0) : scanN l (n + 1) i = ([t], none) := by
  simp only [scanN]; rw [show i + gapN false (l.drop i) = skipN l i from rfl, h]; simp only [if_pos hk]
theorem scanN_ok {l : Bs} {n i : Nat} {t : Tk} (h : tokAt l (skipN l i) = .ok t) (hk : ¬ t.kind = 0) : scanN l (n + 1) i = (t :: (scanN l n t.end_).1, (scanN l n t.end_).2) := by
  simp only [scanN]; rw [show i + gapN false (l.drop i) = skipN l i from rfl, h]; simp only [if_neg hk]
theorem tok_cases {l : Bs} {i : Nat} {t : Tk} (hi : i ≤ l.length) (h : tokAt l i = .ok t) (hk : ¬ t.kind = 0) : t.at_ = i ∧ i < t.end_ ∧ t.end_ ≤ l.length := by
  rcases tokAt_bound hi h with ⟨_, rfl⟩ | ⟨_, _, h1, h2, h3⟩
  · exact absurd rfl hk
  · exact ⟨h1, h2, h3⟩

end Go.Proofs.YthcdmnndhjbbfaaDoor.X
