/-
  Plain law: no token that is taken, or passed ahead of a fault, is the end.
-/
import Derived.Test.YtghhnnbbjlipcaaDoorPlRest
set_option linter.unusedVariables false
set_option linter.unusedSimpArgs false
namespace Go.Proofs.YtghhnnbbjlipcaaDoor.X
def Cov (ts : List Tk) (a b : Nat) : Prop := ∀ i, a ≤ i → i < b → ¬ (ts.getD i endT).kind = 0
theorem Cov.nil {ts : List Tk} {a b : Nat} (h : b ≤ a) : Cov ts a b := fun i h1 h2 => absurd h1 (by omega)
theorem Cov.trans {ts : List Tk} {a b c : Nat} (h : Cov ts a b) (k : Cov ts b c) : Cov ts a c := fun i h1 h2 => by
  rcases Nat.lt_or_ge i b with h3 | h3
  · exact h i h1 h3
  · exact k i h3 h2
theorem Cov.one {ts : List Tk} {a : Nat} (h : ¬ (ts.getD a endT).kind = 0) : Cov ts a (a + 1) := fun i h1 h2 => by
  obtain rfl : i = a := by omega
  exact h
def endU : Except PF PS → Nat
  | .ok S => S.pos
  | .error e => e.2
def CovF (ts : List Tk) (f : PS → PR Nat) : Prop := ∀ S, Cov ts S.pos (endpos (f S))
theorem cov_bind {α β : Type} {ts : List Tk} {p : Nat} {x : PR α} {f : α → PS → PR β} (h : Cov ts p (endpos x)) (k : ∀ a S1, x = .ok (a, S1) → Cov ts S1.pos (endpos (f a S1))) : Cov ts p (endpos (bindS x f)) := by
  cases x with
  | error e => exact h
  | ok q => obtain ⟨a, S1⟩ := q; exact h.trans (k a S1 rfl)
theorem cov_then {β : Type} {ts : List Tk} {p : Nat} {x : Except PF PS} {f : PS → PR β} (h : Cov ts p (endU x)) (k : ∀ S1, x = .ok S1 → Cov ts S1.pos (endpos (f S1))) : Cov ts p (endpos (thenS x f)) := by
  cases x with
  | error e => exact h
  | ok S1 => exact h.trans (k S1 rfl)
theorem is_nz {ts : List Tk} {S : PS} {k : Int} {m : Bs} (h : isT ts S k m = true) (hk : ¬ k = 0) : ¬ (ts.getD S.pos endT).kind = 0 := by
  unfold isT pk at h; rw [Bool.and_eq_true] at h; rw [eq_of_beq h.1]; exact hk
theorem wrong_cov (ts : List Tk) (S : PS) : Cov ts S.pos (wrongP ts S).2 := by unfold wrongP; split <;> exact Cov.nil (Nat.le_refl _)
theorem mark_cov (ts : List Tk) (m : Bs) (S : PS) : Cov ts S.pos (endU (markP ts m S)) := by
  unfold markP
  split
  · rename_i h; exact Cov.one (is_nz h (by decide))
  · exact wrong_cov ts S
theorem open_cov (ts : List Tk) (m : Bs) (S : PS) : Cov ts S.pos (endU (openP ts m S)) := by
  unfold openP
  split
  · rename_i h
    split
    · exact Cov.nil (Nat.le_refl _)
    · exact Cov.one (is_nz h (by decide))
  · exact wrong_cov ts S
theorem shut_cov (ts : List Tk) (S : PS) : Cov ts S.pos (endU (shutP ts S)) := by
  have h := mark_cov ts [41] S
  unfold shutP
  cases hm : markP ts [41] S with
  | error f => rw [hm] at h; exact h
  | ok S1 => rw [hm] at h; exact h
theorem text_cov (ts : List Tk) (S : PS) : Cov ts S.pos (endpos (textP ts S)) := by
  unfold textP
  split
  · rename_i h; exact Cov.one (by unfold pk at h; rw [h]; decide)
  · exact wrong_cov ts S
theorem put_cov (ts : List Tk) (a : Nat) (p : PD) (S : PS) : Cov ts S.pos (endpos (putP a p S)) := Cov.nil (Nat.le_refl _)
theorem loop_cov {ts : List Tk} {m : Bs} {one : PS → PR Nat} (h1 : CovF ts one) : ∀ (n : Nat) (kids : List Nat) (S : PS), Cov ts S.pos (endpos (listLoop ts m one n kids S))
  | 0, kids, S => Cov.nil (Nat.le_refl _)
  | n + 1, kids, S => by
    simp only [listLoop]
    split
    · rename_i hi
      have h2 := (Cov.one (is_nz hi (by decide))).trans (h1 (on S))
      cases ho : one (on S) with
      | error f => rw [ho] at h2; exact h2
      | ok p =>
        obtain ⟨i, S1⟩ := p
        rw [ho] at h2
        exact h2.trans (loop_cov h1 n _ S1)
    · exact Cov.nil (Nat.le_refl _)
theorem list_cov {ts : List Tk} {m : Bs} {kind : Int} {one : PS → PR Nat} (h1 : CovF ts one) : CovF ts (listP ts m kind one) := by
  intro S
  unfold listP
  have h2 := h1 S
  cases ho : one S with
  | error f => rw [ho] at h2; exact h2
  | ok p =>
    obtain ⟨i, S1⟩ := p
    rw [ho] at h2
    simp only
    have h3 := loop_cov (m := m) h1 5000 [i] S1
    cases hl : listLoop ts m one 5000 [i] S1 with
    | error f => rw [hl] at h3; exact h2.trans h3
    | ok q =>
      obtain ⟨ks, S2⟩ := q
      rw [hl] at h3
      simp only [listEnd]
      split
      · exact h2.trans h3
      · exact h2.trans h3
structure LvCov (ts : List Tk) (lo : Lv) : Prop where
  expr : CovF ts lo.expr
  unit : CovF ts lo.unit
  term : CovF ts lo.term
theorem scoped_cov {ts : List Tk} {lo : Lv} (hl : LvCov ts lo) (kind : Int) (S : PS) (hk : ¬ (ts.getD S.pos endT).kind = 0) : Cov ts S.pos (endpos (scopedP ts lo kind S)) := by
  unfold scopedP
  refine (Cov.one hk).trans (cov_then (open_cov ts [40] (on S)) fun S1 _ => cov_bind (text_cov ts S1) fun key S2 _ => cov_then (mark_cov ts [44] S2) fun S3 _ => cov_bind (hl.expr S3) fun kid S4 _ => cov_then (shut_cov ts S4) fun S5 _ => put_cov ts _ _ _)
theorem owned_cov (ts : List Tk) : CovF ts (ownedP ts) := by
  intro S
  unfold ownedP
  split
  · exact wrong_cov ts S
  · rename_i hk
    have h3 : (ts.getD S.pos endT).kind = 3 := Classical.byContradiction fun e => hk (.inl e)
    refine (Cov.one (by rw [h3]; decide)).trans ?_
    show Cov ts (on S).pos _
    unfold ownK
    split
    · rename_i hi
      exact (Cov.one (is_nz hi (by decide))).trans (cov_bind (text_cov ts (on (on S))) fun s S2 _ => cov_then (mark_cov ts [93] S2) fun S3 _ => put_cov ts _ _ _)
    split
    · rename_i hi
      refine (Cov.one (is_nz hi (by decide))).trans ?_
      show Cov ts (on (on S)).pos _
      unfold ownN
      split
      · rename_i hj; exact Cov.one (is_nz hj (by decide))
      split
      · rename_i hj; exact Cov.one (is_nz hj (by decide))
      split
      · rename_i hj; exact Cov.one (is_nz hj (by decide))
      split
      · rename_i hj
        exact (Cov.one (is_nz hj (by decide))).trans (cov_then (mark_cov ts [40] (on (on (on S)))) fun S3 _ => cov_bind (text_cov ts S3) fun s S4 _ => cov_then (mark_cov ts [41] S4) fun S5 _ => put_cov ts _ _ _)
      · exact wrong_cov ts _
    · exact wrong_cov ts _
theorem setLoop_cov (ts : List Tk) : ∀ (n : Nat) (kids : List Nat) (S : PS), Cov ts S.pos (endpos (setLoop ts n kids S))
  | 0, kids, S => Cov.nil (Nat.le_refl _)
  | n + 1, kids, S => by
    simp only [setLoop]
    split
    · exact Cov.nil (Nat.le_refl _)
    · refine cov_then ?_ fun S1 _ => ?_
      · split
        · exact mark_cov ts [44] S
        · exact Cov.nil (Nat.le_refl _)
      · split
        · exact wrong_cov ts S1
        rename_i hk
        have hz : ¬ (ts.getD S1.pos endT).kind = 0 := fun e0 => hk ⟨by unfold pk; rw [e0]; decide, by unfold pk; rw [e0]; decide⟩
        split
        · exact Cov.nil (Nat.le_refl _)
        split
        · exact (Cov.one hz).trans (setLoop_cov ts n (kids ++ [S1.parts.length]) (putS S1.pos ⟨11, (pk ts S1).text, 0, []⟩ (on S1)))
        · exact (Cov.one hz).trans (setLoop_cov ts n (kids ++ [S1.parts.length]) (putS S1.pos ⟨12, [], (pk ts S1).num, []⟩ (on S1)))
/-- The elements end at the brace: one for each token at least. -/
theorem setLoop_ends (ts : List Tk) : ∀ (n : Nat) (kids : List Nat) (S : PS) (ks : List Nat) (S' : PS), ks.length < kids.length + n → setLoop ts n kids S = .ok (ks, S') → isT ts S' 4 [125] = true
  | 0, kids, S, ks, S', hn, h => by cases h; omega
  | n + 1, kids, S, ks, S', hn, h => by
    simp only [setLoop] at h
    split at h
    · rename_i hi; cases h; exact hi
    · obtain ⟨S1, h1, h⟩ := then_ok h
      split at h
      · cases h
      split at h
      · cases h
      split at h
      · exact setLoop_ends ts n _ _ _ _ (by simp; omega) h
      · exact setLoop_ends ts n _ _ _ _ (by simp; omega) h
theorem setLoop_64 (ts : List Tk) : ∀ (n : Nat) (kids : List Nat) (S : PS) (ks : List Nat) (S' : PS), kids.length ≤ 64 → setLoop ts n kids S = .ok (ks, S') → ks.length ≤ 64
  | 0, kids, S, ks, S', hk, h => by cases h; exact hk
  | n + 1, kids, S, ks, S', hk, h => by
    simp only [setLoop] at h
    split at h
    · cases h; exact hk
    · obtain ⟨S1, h1, h⟩ := then_ok h
      split at h
      · cases h
      split at h
      · cases h
      split at h
      · exact setLoop_64 ts n _ _ _ _ (by simp; omega) h
      · exact setLoop_64 ts n _ _ _ _ (by simp; omega) h
theorem set_cov (ts : List Tk) : CovF ts (setP ts) := by
  intro S
  unfold setP
  refine cov_then (mark_cov ts [123] S) fun S1 _ => ?_
  cases hx : setLoop ts 5000 [] S1 with
  | error e => have h := setLoop_cov ts 5000 [] S1; rw [hx] at h; exact h
  | ok q =>
    obtain ⟨ks, S2⟩ := q
    have h := setLoop_cov ts 5000 [] S1
    rw [hx] at h
    have h64 := setLoop_64 ts 5000 [] S1 ks S2 (by simp) hx
    have hi := setLoop_ends ts 5000 [] S1 ks S2 (by simp; omega) hx
    exact h.trans (Cov.one (is_nz hi (by decide)))
theorem term_cov {ts : List Tk} {lo : Lv} (hl : LvCov ts lo) : CovF ts (termP ts lo) := by
  intro S
  unfold termP
  simp only
  split
  · rename_i h; exact Cov.one (by unfold pk at h; rw [h]; decide)
  split
  · rename_i h; exact Cov.one (by unfold pk at h; rw [h]; decide)
  split
  · exact set_cov ts S
  split
  · rename_i hi
    exact (Cov.one (is_nz hi (by decide))).trans (cov_then (open_cov ts [40] (on S)) fun S1 _ => cov_bind (hl.term S1) fun kid S2 _ => cov_then (shut_cov ts S2) fun S3 _ => put_cov ts _ _ _)
  split
  · rename_i hi; exact scoped_cov hl 20 S (is_nz hi (by decide))
  · exact owned_cov ts S
theorem relation_cov (ts : List Tk) (S : PS) : Cov ts S.pos (endpos (relationP ts S)) := by
  unfold relationP
  repeat' split
  all_goals (first | exact wrong_cov ts S | (rename_i hi; exact Cov.one (is_nz hi (by decide))))
theorem cmp_cov {ts : List Tk} {lo : Lv} (hl : LvCov ts lo) : CovF ts (cmpP ts lo) := by
  intro S
  unfold cmpP
  exact cov_bind (term_cov hl S) fun l S1 _ => cov_bind (relation_cov ts S1) fun kn S2 _ => cov_bind (term_cov hl S2) fun r S3 _ => put_cov ts _ _ _
theorem atom_cov {ts : List Tk} {lo : Lv} (hl : LvCov ts lo) : CovF ts (atomP ts lo) := by
  intro S
  unfold atomP
  simp only
  split
  · rename_i hk
    have hz : ¬ (ts.getD S.pos endT).kind = 0 := by unfold pk at hk; rw [hk]; decide
    split
    · exact Cov.one hz
    split
    · exact Cov.one hz
    split
    · exact scoped_cov hl 8 S hz
    split
    · exact scoped_cov hl 9 S hz
    split
    · exact (Cov.one hz).trans (cov_then (mark_cov ts [40] (on S)) fun S1 _ => cov_bind (text_cov ts S1) fun s S2 _ => cov_then (mark_cov ts [41] S2) fun S3 _ => put_cov ts _ _ _)
    · exact cmp_cov hl S
  · exact cmp_cov hl S
theorem unit_cov {ts : List Tk} {lo : Lv} (hl : LvCov ts lo) : CovF ts (unitP ts lo) := by
  intro S
  unfold unitP
  split
  · exact cov_then (open_cov ts [33] S) fun S1 _ => cov_bind (hl.unit S1) fun kid S2 _ => put_cov ts _ _ (closeN S2)
  split
  · exact cov_then (open_cov ts [40] S) fun S1 _ => cov_bind (hl.expr S1) fun kid S2 _ => cov_then (shut_cov ts S2) fun S3 _ => Cov.nil (Nat.le_refl _)
  · exact atom_cov hl S
theorem level_cov {ts : List Tk} {lo : Lv} (hl : LvCov ts lo) : LvCov ts ⟨exprP ts lo, unitP ts lo, termP ts lo⟩ :=
  ⟨list_cov (list_cov (unit_cov hl)), unit_cov hl, term_cov hl⟩
theorem lv_cov (ts : List Tk) : ∀ d, LvCov ts (lv ts d)
  | 0 => level_cov ⟨fun S => Cov.nil (Nat.le_refl _), fun S => Cov.nil (Nat.le_refl _), fun S => Cov.nil (Nat.le_refl _)⟩
  | d + 1 => level_cov (lv_cov ts d)

end Go.Proofs.YtghhnnbbjlipcaaDoor.X
