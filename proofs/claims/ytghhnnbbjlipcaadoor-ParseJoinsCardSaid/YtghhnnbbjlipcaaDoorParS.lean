/-
  Plain law: the descent over two rows of tokens that agree as far as it reads, the one further on, deeper and behind other parts.
-/
import Derived.Test.YtghhnnbbjlipcaaDoorParM
set_option linter.unusedVariables false
set_option linter.unusedSimpArgs false
namespace Go.Proofs.YtghhnnbbjlipcaaDoor.X
/-! ### Where a fault lies; what is taken. -/
def endpos {α : Type} : PR α → Nat
  | .ok (_, S) => S.pos
  | .error e => e.2
/-- A fault lies here or behind; an answer lies behind. -/
def ErrF {α : Type} (f : PS → PR α) : Prop := ∀ S e, f S = .error e → S.pos ≤ e.2
def Takes {α : Type} (f : PS → PR α) : Prop := ∀ S a S', f S = .ok (a, S') → S.pos < S'.pos
theorem wrong_at (ts : List Tk) (S : PS) : (wrongP ts S).2 = S.pos := by unfold wrongP; split <;> rfl
theorem mark_err {ts : List Tk} {m : Bs} {S : PS} {e : PF} (h : markP ts m S = .error e) : e.2 = S.pos := by
  unfold markP at h; split at h
  · cases h
  · injection h with h; rw [← h, wrong_at]
theorem open_err {ts : List Tk} {m : Bs} {S : PS} {e : PF} (h : openP ts m S = .error e) : e.2 = S.pos := by
  unfold openP at h; split at h
  · split at h
    · injection h with h; rw [← h]
    · cases h
  · injection h with h; rw [← h, wrong_at]
theorem shut_err {ts : List Tk} {S : PS} {e : PF} (h : shutP ts S = .error e) : e.2 = S.pos := by
  unfold shutP at h
  cases hm : markP ts [41] S with
  | error f => rw [hm] at h; injection h with h; rw [← h, mark_err hm]
  | ok S1 => rw [hm] at h; cases h
theorem text_err {ts : List Tk} {S : PS} {e : PF} (h : textP ts S = .error e) : e.2 = S.pos := by
  unfold textP at h; split at h
  · cases h
  · injection h with h; rw [← h, wrong_at]
theorem then_err {β : Type} {x : Except PF PS} {f : PS → PR β} {e : PF} (h : thenS x f = .error e) : x = .error e ∨ ∃ S1, x = .ok S1 ∧ f S1 = .error e := by
  cases x with
  | error g => left; injection h with h; rw [h]
  | ok S1 => right; exact ⟨S1, rfl, h⟩
theorem bind_err {α β : Type} {x : PR α} {f : α → PS → PR β} {e : PF} (h : bindS x f = .error e) : x = .error e ∨ ∃ a S1, x = .ok (a, S1) ∧ f a S1 = .error e := by
  cases x with
  | error g => left; injection h with h; rw [h]
  | ok p => obtain ⟨a, S1⟩ := p; right; exact ⟨a, S1, rfl, h⟩
theorem put_err {a : Nat} {p : PD} {S : PS} {e : PF} (h : putP a p S = .error e) : False := by cases h
theorem loop_err {ts : List Tk} {m : Bs} {one : PS → PR Nat} (h1 : ErrF one) (h2 : FairF one) : ∀ (n : Nat) (kids : List Nat) (S : PS) (e : PF), listLoop ts m one n kids S = .error e → S.pos ≤ e.2
  | 0, kids, S, e, h => by cases h
  | n + 1, kids, S, e, h => by
    simp only [listLoop] at h
    split at h
    · cases ho : one (on S) with
      | error f => rw [ho] at h; injection h with h; rw [← h]; have := h1 _ _ ho; simp only [X.on] at this; omega
      | ok p =>
        obtain ⟨i, S1⟩ := p
        rw [ho] at h
        have a1 := (h2 _ _ _ ho).pos
        have a2 := loop_err h1 h2 n _ _ _ h
        simp only [X.on] at a1
        omega
    · cases h
theorem list_err {ts : List Tk} {m : Bs} {kind : Int} {one : PS → PR Nat} (h1 : ErrF one) (h2 : FairF one) : ErrF (listP ts m kind one) := by
  intro S e h
  unfold listP at h
  cases ho : one S with
  | error f => rw [ho] at h; injection h with h; rw [← h]; exact h1 _ _ ho
  | ok p =>
    obtain ⟨i, S1⟩ := p
    rw [ho] at h
    simp only at h
    have a1 := (h2 _ _ _ ho).pos
    cases hl : listLoop ts m one 5000 [i] S1 with
    | error f => rw [hl] at h; injection h with h; rw [← h]; have := loop_err h1 h2 _ _ _ _ hl; omega
    | ok q =>
      obtain ⟨ks, S2⟩ := q
      rw [hl] at h
      simp only [listEnd] at h
      split at h
      · cases h
      · exact (put_err h).elim
theorem list_takes {ts : List Tk} {m : Bs} {kind : Int} {one : PS → PR Nat} (h1 : Takes one) (h2 : FairF one) : Takes (listP ts m kind one) := by
  intro S a S' h
  unfold listP at h
  cases ho : one S with
  | error f => rw [ho] at h; cases h
  | ok p =>
    obtain ⟨i, S1⟩ := p
    rw [ho] at h
    simp only at h
    have a1 := h1 _ _ _ ho
    cases hl : listLoop ts m one 5000 [i] S1 with
    | error f => rw [hl] at h; cases h
    | ok q =>
      obtain ⟨ks, S2⟩ := q
      rw [hl] at h
      have a2 := (loop_fair h2 _ _ _ _ _ hl).1.pos
      simp only [listEnd] at h
      split at h
      · cases h; omega
      · obtain ⟨_, rfl⟩ := put_ok h; simp only [putS]; omega
structure LvErr (lo : Lv) : Prop where
  expr : ErrF lo.expr
  unit : ErrF lo.unit
  term : ErrF lo.term
theorem scoped_err {ts : List Tk} {lo : Lv} (hl : LvFair lo) (he : LvErr lo) (kind : Int) : ErrF (scopedP ts lo kind) := by
  intro S e h
  unfold scopedP at h
  rcases then_err h with h | ⟨S1, h1, h⟩
  · have := open_err h; simp only [X.on] at this; omega
  obtain ⟨rfl, hn⟩ := open_fair h1
  rcases bind_err h with h | ⟨key, S2, h2, h⟩
  · have := text_err h; simp only [X.on] at this; omega
  rw [text_fair h2] at h
  rcases then_err h with h | ⟨S3, h3, h⟩
  · have := mark_err h; simp only [X.on] at this; omega
  rw [mark_fair h3] at h
  rcases bind_err h with h | ⟨kid, S4, h4, h⟩
  · have := he.expr _ _ h; simp only [X.on] at this; omega
  have a := (hl.expr _ _ _ h4).pos
  simp only [X.on] at a
  rcases then_err h with h | ⟨S5, h5, h⟩
  · have := shut_err h; omega
  · exact (put_err h).elim
theorem scoped_takes {ts : List Tk} {lo : Lv} (hl : LvFair lo) (kind : Int) : Takes (scopedP ts lo kind) := by
  intro S a S' h
  unfold scopedP at h
  obtain ⟨S1, h1, h⟩ := then_ok h
  obtain ⟨key, S2, h2, h⟩ := bind_ok h
  obtain ⟨S3, h3, h⟩ := then_ok h
  obtain ⟨kid, S4, h4, h⟩ := bind_ok h
  obtain ⟨S5, h5, h⟩ := then_ok h
  obtain ⟨rfl, rfl⟩ := put_ok h
  obtain ⟨rfl, hn⟩ := open_fair h1
  rw [text_fair h2] at h3
  rw [mark_fair h3] at h4
  have := (hl.expr _ _ _ h4).pos
  rw [shut_fair h5]
  simp only [X.on] at this
  simp [putS, closeN, X.on]; omega
theorem owned_err {ts : List Tk} : ErrF (ownedP ts) := by
  intro S e h
  unfold ownedP ownK ownN at h
  split at h
  · injection h with h; rw [← h, wrong_at]; exact Nat.le_refl _
  split at h
  · rcases bind_err h with h | ⟨s, S2, h2, h⟩
    · have := text_err h; simp only [X.on] at this; omega
    rw [text_fair h2] at h
    rcases then_err h with h | ⟨S3, h3, h⟩
    · have := mark_err h; simp only [X.on] at this; omega
    · exact (put_err h).elim
  split at h
  · split at h
    · exact (put_err h).elim
    split at h
    · exact (put_err h).elim
    split at h
    · exact (put_err h).elim
    split at h
    · rcases then_err h with h | ⟨S3, h3, h⟩
      · have := mark_err h; simp only [X.on] at this; omega
      rw [mark_fair h3] at h
      rcases bind_err h with h | ⟨s, S4, h4, h⟩
      · have := text_err h; simp only [X.on] at this; omega
      rw [text_fair h4] at h
      rcases then_err h with h | ⟨S5, h5, h⟩
      · have := mark_err h; simp only [X.on] at this; omega
      · exact (put_err h).elim
    · injection h with h; rw [← h, wrong_at]; simp only [X.on]; omega
  · injection h with h; rw [← h, wrong_at]; simp only [X.on]; omega
theorem owned_takes {ts : List Tk} : Takes (ownedP ts) := by
  intro S a S' h
  unfold ownedP ownK ownN at h
  split at h
  · cases h
  split at h
  · obtain ⟨s, S2, h2, h⟩ := bind_ok h
    obtain ⟨S3, h3, h⟩ := then_ok h
    obtain ⟨rfl, rfl⟩ := put_ok h
    rw [text_fair h2] at h3
    rw [mark_fair h3]
    simp [putS, X.on]; omega
  split at h
  · split at h
    · obtain ⟨rfl, rfl⟩ := put_ok h; simp [putS, X.on]; omega
    split at h
    · obtain ⟨rfl, rfl⟩ := put_ok h; simp [putS, X.on]; omega
    split at h
    · obtain ⟨rfl, rfl⟩ := put_ok h; simp [putS, X.on]; omega
    split at h
    · obtain ⟨S3, h3, h⟩ := then_ok h
      obtain ⟨s, S4, h4, h⟩ := bind_ok h
      obtain ⟨S5, h5, h⟩ := then_ok h
      obtain ⟨rfl, rfl⟩ := put_ok h
      rw [mark_fair h3] at h4
      rw [text_fair h4] at h5
      rw [mark_fair h5]
      simp [putS, X.on]; omega
    · cases h
  · cases h
theorem setLoop_err {ts : List Tk} : ∀ (n : Nat) (kids : List Nat) (S : PS) (e : PF), setLoop ts n kids S = .error e → S.pos ≤ e.2
  | 0, kids, S, e, h => by cases h
  | n + 1, kids, S, e, h => by
    simp only [setLoop] at h
    split at h
    · cases h
    · rcases then_err h with h | ⟨S1, hs, h⟩
      · split at h
        · have := mark_err h; omega
        · cases h
      have hf : S.pos ≤ S1.pos := by
        split at hs
        · rw [mark_fair hs]; simp [X.on]
        · injection hs with hs; rw [← hs]; exact Nat.le_refl _
      split at h
      · injection h with h; rw [← h, wrong_at]; exact hf
      split at h
      · injection h with h; rw [← h]; exact hf
      split at h
      · have := setLoop_err n _ _ _ h; simp only [putS, X.on] at this; omega
      · have := setLoop_err n _ _ _ h; simp only [putS, X.on] at this; omega
theorem set_err {ts : List Tk} : ErrF (setP ts) := by
  intro S e h
  unfold setP at h
  rcases then_err h with h | ⟨S1, h1, h⟩
  · have := mark_err h; omega
  rw [mark_fair h1] at h
  rcases bind_err h with h | ⟨ks, S2, h2, h⟩
  · have := setLoop_err _ _ _ _ h; simp only [X.on] at this; omega
  · exact (put_err h).elim
theorem set_takes {ts : List Tk} : Takes (setP ts) := by
  intro S a S' h
  unfold setP at h
  obtain ⟨S1, h1, h⟩ := then_ok h
  obtain ⟨ks, S2, h2, h⟩ := bind_ok h
  obtain ⟨rfl, rfl⟩ := put_ok h
  rw [mark_fair h1] at h2
  have := (setLoop_fair _ _ _ _ _ h2).pos
  simp only [X.on] at this
  simp [putS, X.on]; omega
theorem term_err {ts : List Tk} {lo : Lv} (hl : LvFair lo) (he : LvErr lo) : ErrF (termP ts lo) := by
  intro S e h
  unfold termP at h
  simp only at h
  split at h
  · exact (put_err h).elim
  split at h
  · exact (put_err h).elim
  split at h
  · exact set_err _ _ h
  split at h
  · rcases then_err h with h | ⟨S1, h1, h⟩
    · have := open_err h; simp only [X.on] at this; omega
    obtain ⟨rfl, hn⟩ := open_fair h1
    rcases bind_err h with h | ⟨kid, S2, h2, h⟩
    · have := he.term _ _ h; simp only [X.on] at this; omega
    have a := (hl.term _ _ _ h2).pos
    simp only [X.on] at a
    rcases then_err h with h | ⟨S3, h3, h⟩
    · have := shut_err h; omega
    · exact (put_err h).elim
  split at h
  · exact scoped_err hl he 20 _ _ h
  · exact owned_err _ _ h
theorem term_takes {ts : List Tk} {lo : Lv} (hl : LvFair lo) : Takes (termP ts lo) := by
  intro S a S' h
  unfold termP at h
  simp only at h
  split at h
  · obtain ⟨rfl, rfl⟩ := put_ok h; simp [putS, X.on]
  split at h
  · obtain ⟨rfl, rfl⟩ := put_ok h; simp [putS, X.on]
  split at h
  · exact set_takes _ _ _ h
  split at h
  · obtain ⟨S1, h1, h⟩ := then_ok h
    obtain ⟨kid, S2, h2, h⟩ := bind_ok h
    obtain ⟨S3, h3, h⟩ := then_ok h
    obtain ⟨rfl, rfl⟩ := put_ok h
    obtain ⟨rfl, hn⟩ := open_fair h1
    have := (hl.term _ _ _ h2).pos
    rw [shut_fair h3]
    simp only [X.on] at this
    simp [putS, closeN, X.on]; omega
  split at h
  · exact scoped_takes hl 20 _ _ _ h
  · exact owned_takes _ _ _ h
theorem relation_err {ts : List Tk} {S : PS} {e : PF} (h : relationP ts S = .error e) : e.2 = S.pos := by
  unfold relationP at h
  repeat' split at h
  all_goals (first | (cases h; done) | (injection h with h; rw [← h, wrong_at]))
theorem cmp_err {ts : List Tk} {lo : Lv} (hl : LvFair lo) (he : LvErr lo) : ErrF (cmpP ts lo) := by
  intro S e h
  unfold cmpP at h
  rcases bind_err h with h | ⟨l, S1, h1, h⟩
  · exact term_err hl he _ _ h
  have a := (term_fair hl _ _ _ h1).pos
  rcases bind_err h with h | ⟨kn, S2, h2, h⟩
  · have := relation_err h; omega
  rw [relation_fair h2] at h
  rcases bind_err h with h | ⟨r, S3, h3, h⟩
  · have := term_err hl he _ _ h; simp only [X.on] at this; omega
  · exact (put_err h).elim
theorem cmp_takes {ts : List Tk} {lo : Lv} (hl : LvFair lo) : Takes (cmpP ts lo) := by
  intro S a S' h
  unfold cmpP at h
  obtain ⟨l, S1, h1, h⟩ := bind_ok h
  obtain ⟨kn, S2, h2, h⟩ := bind_ok h
  obtain ⟨r, S3, h3, h⟩ := bind_ok h
  obtain ⟨rfl, rfl⟩ := put_ok h
  rw [relation_fair h2] at h3
  have a := term_takes hl _ _ _ h1
  have b := (term_fair hl _ _ _ h3).pos
  simp only [X.on] at b
  simp [putS]; omega
theorem atom_err {ts : List Tk} {lo : Lv} (hl : LvFair lo) (he : LvErr lo) : ErrF (atomP ts lo) := by
  intro S e h
  unfold atomP at h
  simp only at h
  split at h
  · split at h
    · exact (put_err h).elim
    split at h
    · exact (put_err h).elim
    split at h
    · exact scoped_err hl he 8 _ _ h
    split at h
    · exact scoped_err hl he 9 _ _ h
    split at h
    · rcases then_err h with h | ⟨S1, h1, h⟩
      · have := mark_err h; simp only [X.on] at this; omega
      rw [mark_fair h1] at h
      rcases bind_err h with h | ⟨s, S2, h2, h⟩
      · have := text_err h; simp only [X.on] at this; omega
      rw [text_fair h2] at h
      rcases then_err h with h | ⟨S3, h3, h⟩
      · have := mark_err h; simp only [X.on] at this; omega
      · exact (put_err h).elim
    · exact cmp_err hl he _ _ h
  · exact cmp_err hl he _ _ h
theorem atom_takes {ts : List Tk} {lo : Lv} (hl : LvFair lo) : Takes (atomP ts lo) := by
  intro S a S' h
  unfold atomP at h
  simp only at h
  split at h
  · split at h
    · obtain ⟨rfl, rfl⟩ := put_ok h; simp [putS, X.on]
    split at h
    · obtain ⟨rfl, rfl⟩ := put_ok h; simp [putS, X.on]
    split at h
    · exact scoped_takes hl 8 _ _ _ h
    split at h
    · exact scoped_takes hl 9 _ _ _ h
    split at h
    · obtain ⟨S1, h1, h⟩ := then_ok h
      obtain ⟨s, S2, h2, h⟩ := bind_ok h
      obtain ⟨S3, h3, h⟩ := then_ok h
      obtain ⟨rfl, rfl⟩ := put_ok h
      rw [mark_fair h1] at h2
      rw [text_fair h2] at h3
      rw [mark_fair h3]
      simp [putS, X.on]; omega
    · exact cmp_takes hl _ _ _ h
  · exact cmp_takes hl _ _ _ h
theorem unit_err {ts : List Tk} {lo : Lv} (hl : LvFair lo) (he : LvErr lo) : ErrF (unitP ts lo) := by
  intro S e h
  unfold unitP at h
  split at h
  · rcases then_err h with h | ⟨S1, h1, h⟩
    · have := open_err h; omega
    obtain ⟨rfl, hn⟩ := open_fair h1
    rcases bind_err h with h | ⟨kid, S2, h2, h⟩
    · have := he.unit _ _ h; simp only at this; omega
    · exact (put_err h).elim
  split at h
  · rcases then_err h with h | ⟨S1, h1, h⟩
    · have := open_err h; omega
    obtain ⟨rfl, hn⟩ := open_fair h1
    rcases bind_err h with h | ⟨kid, S2, h2, h⟩
    · have := he.expr _ _ h; simp only at this; omega
    have a := (hl.expr _ _ _ h2).pos
    simp only at a
    rcases then_err h with h | ⟨S3, h3, h⟩
    · have := shut_err h; omega
    · cases h
  · exact atom_err hl he _ _ h
theorem unit_takes {ts : List Tk} {lo : Lv} (hl : LvFair lo) : Takes (unitP ts lo) := by
  intro S a S' h
  unfold unitP at h
  split at h
  · obtain ⟨S1, h1, h⟩ := then_ok h
    obtain ⟨kid, S2, h2, h⟩ := bind_ok h
    obtain ⟨rfl, rfl⟩ := put_ok h
    obtain ⟨rfl, hn⟩ := open_fair h1
    have := (hl.unit _ _ _ h2).pos
    simp only at this
    simp [putS, closeN]; omega
  split at h
  · obtain ⟨S1, h1, h⟩ := then_ok h
    obtain ⟨kid, S2, h2, h⟩ := bind_ok h
    obtain ⟨S3, h3, h⟩ := then_ok h
    cases h
    obtain ⟨rfl, hn⟩ := open_fair h1
    have := (hl.expr _ _ _ h2).pos
    rw [shut_fair h3]
    simp only at this
    simp [closeN, X.on]; omega
  · exact atom_takes hl _ _ _ h
theorem conj_err {ts : List Tk} {lo : Lv} (hl : LvFair lo) (he : LvErr lo) : ErrF (conjP ts lo) := list_err (unit_err hl he) (unit_fair hl)
theorem conj_takes {ts : List Tk} {lo : Lv} (hl : LvFair lo) : Takes (conjP ts lo) := list_takes (unit_takes hl) (unit_fair hl)
theorem expr_err {ts : List Tk} {lo : Lv} (hl : LvFair lo) (he : LvErr lo) : ErrF (exprP ts lo) := list_err (conj_err hl he) (conj_fair hl)
theorem expr_takes {ts : List Tk} {lo : Lv} (hl : LvFair lo) : Takes (exprP ts lo) := list_takes (conj_takes hl) (conj_fair hl)
theorem noLv_fair : LvFair noLv := ⟨(fun S a S' h => by cases h), (fun S a S' h => by cases h), (fun S a S' h => by cases h)⟩
theorem noLv_err : LvErr noLv := ⟨(fun S e h => by cases h; exact Nat.le_refl _), (fun S e h => by cases h; exact Nat.le_refl _), (fun S e h => by cases h; exact Nat.le_refl _)⟩
theorem lv_err (ts : List Tk) : ∀ d, LvErr (lv ts d)
  | 0 => ⟨expr_err noLv_fair noLv_err, unit_err noLv_fair noLv_err, term_err noLv_fair noLv_err⟩
  | d + 1 => ⟨expr_err (lv_fair ts d) (lv_err ts d), unit_err (lv_fair ts d) (lv_err ts d), term_err (lv_fair ts d) (lv_err ts d)⟩

end Go.Proofs.YtghhnnbbjlipcaaDoor.X
