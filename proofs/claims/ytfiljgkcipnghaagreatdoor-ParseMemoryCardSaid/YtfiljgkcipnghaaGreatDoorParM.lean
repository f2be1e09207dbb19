/-
  Plain law: the descent goes on, its nest comes back, a part for a token at most.
-/
import Derived.Test.YtfiljgkcipnghaaGreatDoorParL
set_option linter.unusedVariables false
set_option linter.unusedSimpArgs false
namespace Go.Proofs.YtfiljgkcipnghaaGreatDoor.X
/-- From S to S'. -/
structure Fair (S S' : PS) : Prop where
  pos : S.pos ≤ S'.pos
  nest : S'.nest = S.nest
  grow : S'.parts.length + S.pos ≤ S'.pos + S.parts.length
  more : S.parts.length ≤ S'.parts.length
  offs : S'.offs.length + S.parts.length = S'.parts.length + S.offs.length
theorem Fair.refl (S : PS) : Fair S S := ⟨Nat.le_refl _, rfl, Nat.le_of_eq (Nat.add_comm _ _), Nat.le_refl _, by omega⟩
theorem Fair.trans {A B C : PS} (h : Fair A B) (k : Fair B C) : Fair A C := by
  obtain ⟨a1, a2, a3, a4, a5⟩ := h
  obtain ⟨b1, b2, b3, b4, b5⟩ := k
  exact ⟨by omega, by omega, by omega, by omega, by omega⟩
theorem Fair.on (S : PS) : Fair S (on S) := ⟨by simp [X.on], rfl, by simp [X.on]; omega, Nat.le_refl _, by simp [X.on]; omega⟩
/-- A part laid where a token has been taken for it. -/
theorem Fair.put {S S1 : PS} {a : Nat} {p : PD} (h : Fair S S1) (hs : S1.parts.length + 1 + S.pos ≤ S1.pos + S.parts.length) : Fair S (putS a p S1) := by
  obtain ⟨a1, a2, a3, a4, a5⟩ := h
  exact ⟨a1, a2, by simp [putS]; omega, by simp [putS]; omega, by simp [putS]; omega⟩
def FairF {α : Type} (f : PS → PR α) : Prop := ∀ S a S', f S = .ok (a, S') → Fair S S'
theorem mark_fair {ts : List Tk} {m : Bs} {S S' : PS} (h : markP ts m S = .ok S') : S' = on S := by
  unfold markP at h; split at h
  · injection h with h; exact h.symm
  · cases h
theorem open_fair {ts : List Tk} {m : Bs} {S S' : PS} (h : openP ts m S = .ok S') : S' = { S with pos := S.pos + 1, nest := S.nest + 1 } ∧ S.nest ≠ 32 := by
  unfold openP at h; split at h
  · split at h
    · cases h
    · rename_i hn; injection h with h; exact ⟨h.symm, hn⟩
  · cases h
theorem shut_fair {ts : List Tk} {S S' : PS} (h : shutP ts S = .ok S') : S' = closeN (on S) := by
  unfold shutP at h
  cases hm : markP ts [41] S with
  | error f => rw [hm] at h; cases h
  | ok S1 => rw [hm] at h; injection h with h; rw [← h, mark_fair hm]
theorem text_fair {ts : List Tk} {S S' : PS} {s : Bs} (h : textP ts S = .ok (s, S')) : S' = on S := by
  unfold textP at h; split at h
  · injection h with h; injection h with h1 h2; exact h2.symm
  · cases h
theorem then_ok {β : Type} {x : Except PF PS} {f : PS → PR β} {b : β} {S' : PS} (h : thenS x f = .ok (b, S')) : ∃ S1, x = .ok S1 ∧ f S1 = .ok (b, S') := by
  cases x with
  | error e => cases h
  | ok S1 => exact ⟨S1, rfl, h⟩
theorem bind_ok {α β : Type} {x : PR α} {f : α → PS → PR β} {b : β} {S' : PS} (h : bindS x f = .ok (b, S')) : ∃ a S1, x = .ok (a, S1) ∧ f a S1 = .ok (b, S') := by
  cases x with
  | error e => cases h
  | ok p => obtain ⟨a, S1⟩ := p; exact ⟨a, S1, rfl, h⟩
theorem put_ok {a i : Nat} {p : PD} {S S' : PS} (h : putP a p S = .ok (i, S')) : i = S.parts.length ∧ S' = putS a p S := by
  unfold putP at h; injection h with h; injection h with h1 h2; exact ⟨h1.symm, h2.symm⟩
theorem loop_fair {ts : List Tk} {m : Bs} {one : PS → PR Nat} (h1 : FairF one) : ∀ (n : Nat) (kids : List Nat) (S : PS) (ks : List Nat) (S' : PS), listLoop ts m one n kids S = .ok (ks, S') →
    Fair S S' ∧ kids.length ≤ ks.length ∧ (kids.length < ks.length → S'.parts.length + 1 + S.pos ≤ S'.pos + S.parts.length)
  | 0, kids, S, ks, S', h => by cases h; exact ⟨Fair.refl _, Nat.le_refl _, fun e => absurd e (Nat.lt_irrefl _)⟩
  | n + 1, kids, S, ks, S', h => by
    simp only [listLoop] at h
    split at h
    · cases ho : one (on S) with
      | error f => rw [ho] at h; cases h
      | ok p =>
        obtain ⟨i, S1⟩ := p
        rw [ho] at h
        have hf := h1 _ _ _ ho
        obtain ⟨k1, k2, k3⟩ := loop_fair h1 n _ _ _ _ h
        simp only [List.length_append, List.length_cons, List.length_nil] at k2 k3
        refine ⟨(Fair.on S).trans (hf.trans k1), by omega, fun _ => ?_⟩
        have a1 := hf.grow
        have a2 := k1.grow
        simp only [X.on] at a1
        omega
    · cases h; exact ⟨Fair.refl _, Nat.le_refl _, fun e => absurd e (Nat.lt_irrefl _)⟩
theorem list_fair {ts : List Tk} {m : Bs} {kind : Int} {one : PS → PR Nat} (h1 : FairF one) : FairF (listP ts m kind one) := by
  intro S a S' h
  unfold listP at h
  cases ho : one S with
  | error f => rw [ho] at h; cases h
  | ok p =>
    obtain ⟨i, S1⟩ := p
    rw [ho] at h
    have hf := h1 _ _ _ ho
    simp only at h
    cases hl : listLoop ts m one 5000 [i] S1 with
    | error f => rw [hl] at h; cases h
    | ok q =>
      obtain ⟨ks, S2⟩ := q
      rw [hl] at h
      obtain ⟨k1, k2, k3⟩ := loop_fair h1 _ _ _ _ _ hl
      simp only [listEnd] at h
      split at h
      · cases h; exact hf.trans k1
      · rename_i hne
        obtain ⟨_, rfl⟩ := put_ok h
        simp only [List.length_cons, List.length_nil] at k2 k3
        have := k3 (by omega)
        have := hf.grow
        exact (hf.trans k1).put (by omega)
theorem setLoop_fair {ts : List Tk} : ∀ (n : Nat) (kids : List Nat) (S : PS) (ks : List Nat) (S' : PS), setLoop ts n kids S = .ok (ks, S') → Fair S S'
  | 0, kids, S, ks, S', h => by cases h; exact Fair.refl _
  | n + 1, kids, S, ks, S', h => by
    simp only [setLoop] at h
    split at h
    · cases h; exact Fair.refl _
    · obtain ⟨S1, hs, h⟩ := then_ok h
      have hf : Fair S S1 := by
        split at hs
        · rw [mark_fair hs]; exact Fair.on S
        · injection hs with hs; rw [← hs]; exact Fair.refl _
      split at h
      · cases h
      split at h
      · cases h
      split at h
      · refine hf.trans (Fair.trans ?_ (setLoop_fair n _ _ _ _ h))
        exact (Fair.on S1).put (by simp [X.on]; omega)
      · refine hf.trans (Fair.trans ?_ (setLoop_fair n _ _ _ _ h))
        exact (Fair.on S1).put (by simp [X.on]; omega)
structure LvFair (lo : Lv) : Prop where
  expr : FairF lo.expr
  unit : FairF lo.unit
  term : FairF lo.term
theorem scoped_fair {ts : List Tk} {lo : Lv} (hl : LvFair lo) (kind : Int) : FairF (scopedP ts lo kind) := by
  intro S a S' h
  unfold scopedP at h
  obtain ⟨S1, h1, h⟩ := then_ok h
  obtain ⟨key, S2, h2, h⟩ := bind_ok h
  obtain ⟨S3, h3, h⟩ := then_ok h
  obtain ⟨kid, S4, h4, h⟩ := bind_ok h
  obtain ⟨S5, h5, h⟩ := then_ok h
  obtain ⟨rfl, rfl⟩ := put_ok h
  obtain ⟨rfl, hn⟩ := open_fair h1
  rw [text_fair h2] at h3
  rw [mark_fair h3] at h4
  have := hl.expr _ _ _ h4
  rw [shut_fair h5]
  obtain ⟨a1, a2, a3, a4, a5⟩ := this
  simp only [X.on] at a1 a2 a3 a4 a5
  exact ⟨by simp [putS, closeN, X.on]; omega, by simp [putS, closeN, X.on]; omega, by simp [putS, closeN, X.on]; omega, by simp [putS, closeN, X.on]; omega, by simp [putS, closeN, X.on]; omega⟩
theorem owned_fair {ts : List Tk} : FairF (ownedP ts) := by
  intro S a S' h
  unfold ownedP ownK ownN at h
  split at h
  · cases h
  split at h
  · obtain ⟨s, S2, h2, h⟩ := bind_ok h
    obtain ⟨S3, h3, h⟩ := then_ok h
    obtain ⟨rfl, rfl⟩ := put_ok h
    rw [text_fair h2] at h3
    rw [mark_fair h3]
    exact ⟨by simp [putS, X.on]; omega, rfl, by simp [putS, X.on]; omega, by simp [putS, X.on], by simp [putS, X.on]; omega⟩
  split at h
  · split at h
    · obtain ⟨rfl, rfl⟩ := put_ok h
      exact ⟨by simp [putS, X.on]; omega, rfl, by simp [putS, X.on]; omega, by simp [putS, X.on], by simp [putS, X.on]; omega⟩
    split at h
    · obtain ⟨rfl, rfl⟩ := put_ok h
      exact ⟨by simp [putS, X.on]; omega, rfl, by simp [putS, X.on]; omega, by simp [putS, X.on], by simp [putS, X.on]; omega⟩
    split at h
    · obtain ⟨rfl, rfl⟩ := put_ok h
      exact ⟨by simp [putS, X.on]; omega, rfl, by simp [putS, X.on]; omega, by simp [putS, X.on], by simp [putS, X.on]; omega⟩
    split at h
    · obtain ⟨S3, h3, h⟩ := then_ok h
      obtain ⟨s, S4, h4, h⟩ := bind_ok h
      obtain ⟨S5, h5, h⟩ := then_ok h
      obtain ⟨rfl, rfl⟩ := put_ok h
      rw [mark_fair h3] at h4
      rw [text_fair h4] at h5
      rw [mark_fair h5]
      exact ⟨by simp [putS, X.on]; omega, rfl, by simp [putS, X.on]; omega, by simp [putS, X.on], by simp [putS, X.on]; omega⟩
    · cases h
  · cases h
theorem set_fair {ts : List Tk} : FairF (setP ts) := by
  intro S a S' h
  unfold setP at h
  obtain ⟨S1, h1, h⟩ := then_ok h
  obtain ⟨ks, S2, h2, h⟩ := bind_ok h
  obtain ⟨rfl, rfl⟩ := put_ok h
  rw [mark_fair h1] at h2
  obtain ⟨a1, a2, a3, a4, a5⟩ := setLoop_fair _ _ _ _ _ h2
  simp only [X.on] at a1 a2 a3 a4 a5
  exact ⟨by simp [putS, X.on]; omega, by simp [putS, X.on]; omega, by simp [putS, X.on]; omega, by simp [putS, X.on]; omega, by simp [putS, X.on]; omega⟩
theorem term_fair {ts : List Tk} {lo : Lv} (hl : LvFair lo) : FairF (termP ts lo) := by
  intro S a S' h
  unfold termP at h
  simp only at h
  split at h
  · obtain ⟨rfl, rfl⟩ := put_ok h
    exact (Fair.on S).put (by simp [X.on]; omega)
  split at h
  · obtain ⟨rfl, rfl⟩ := put_ok h
    exact (Fair.on S).put (by simp [X.on]; omega)
  split at h
  · exact set_fair _ _ _ h
  split at h
  · obtain ⟨S1, h1, h⟩ := then_ok h
    obtain ⟨kid, S2, h2, h⟩ := bind_ok h
    obtain ⟨S3, h3, h⟩ := then_ok h
    obtain ⟨rfl, rfl⟩ := put_ok h
    obtain ⟨rfl, hn⟩ := open_fair h1
    obtain ⟨a1, a2, a3, a4, a5⟩ := hl.term _ _ _ h2
    rw [shut_fair h3]
    simp only [X.on] at a1 a2 a3 a4 a5
    exact ⟨by simp [putS, closeN, X.on]; omega, by simp [putS, closeN, X.on]; omega, by simp [putS, closeN, X.on]; omega, by simp [putS, closeN, X.on]; omega, by simp [putS, closeN, X.on]; omega⟩
  split at h
  · exact scoped_fair hl 20 _ _ _ h
  · exact owned_fair _ _ _ h
theorem relation_fair {ts : List Tk} {S S' : PS} {kn : Int × Int} (h : relationP ts S = .ok (kn, S')) : S' = on S := by
  unfold relationP at h
  repeat' split at h
  all_goals (first | (injection h with h; injection h with h1 h2; exact h2.symm) | cases h)
theorem cmp_fair {ts : List Tk} {lo : Lv} (hl : LvFair lo) : FairF (cmpP ts lo) := by
  intro S a S' h
  unfold cmpP at h
  obtain ⟨l, S1, h1, h⟩ := bind_ok h
  obtain ⟨kn, S2, h2, h⟩ := bind_ok h
  obtain ⟨r, S3, h3, h⟩ := bind_ok h
  obtain ⟨rfl, rfl⟩ := put_ok h
  rw [relation_fair h2] at h3
  obtain ⟨a1, a2, a3, a4, a5⟩ := term_fair hl _ _ _ h1
  obtain ⟨b1, b2, b3, b4, b5⟩ := term_fair hl _ _ _ h3
  simp only [X.on] at b1 b2 b3 b4 b5
  exact ⟨by simp [putS]; omega, by simp [putS]; omega, by simp [putS]; omega, by simp [putS]; omega, by simp [putS]; omega⟩
theorem atom_fair {ts : List Tk} {lo : Lv} (hl : LvFair lo) : FairF (atomP ts lo) := by
  intro S a S' h
  unfold atomP at h
  simp only at h
  split at h
  · split at h
    · obtain ⟨rfl, rfl⟩ := put_ok h
      exact (Fair.on S).put (by simp [X.on]; omega)
    split at h
    · obtain ⟨rfl, rfl⟩ := put_ok h
      exact (Fair.on S).put (by simp [X.on]; omega)
    split at h
    · exact scoped_fair hl 8 _ _ _ h
    split at h
    · exact scoped_fair hl 9 _ _ _ h
    split at h
    · obtain ⟨S1, h1, h⟩ := then_ok h
      obtain ⟨s, S2, h2, h⟩ := bind_ok h
      obtain ⟨S3, h3, h⟩ := then_ok h
      obtain ⟨rfl, rfl⟩ := put_ok h
      rw [mark_fair h1] at h2
      rw [text_fair h2] at h3
      rw [mark_fair h3]
      exact ⟨by simp [putS, X.on]; omega, rfl, by simp [putS, X.on]; omega, by simp [putS, X.on], by simp [putS, X.on]; omega⟩
    · exact cmp_fair hl _ _ _ h
  · exact cmp_fair hl _ _ _ h
theorem unit_fair {ts : List Tk} {lo : Lv} (hl : LvFair lo) : FairF (unitP ts lo) := by
  intro S a S' h
  unfold unitP at h
  split at h
  · obtain ⟨S1, h1, h⟩ := then_ok h
    obtain ⟨kid, S2, h2, h⟩ := bind_ok h
    obtain ⟨rfl, rfl⟩ := put_ok h
    obtain ⟨rfl, hn⟩ := open_fair h1
    obtain ⟨a1, a2, a3, a4, a5⟩ := hl.unit _ _ _ h2
    simp only at a1 a2 a3 a4 a5
    exact ⟨by simp [putS, closeN]; omega, by simp [putS, closeN]; omega, by simp [putS, closeN]; omega, by simp [putS, closeN]; omega, by simp [putS, closeN]; omega⟩
  split at h
  · obtain ⟨S1, h1, h⟩ := then_ok h
    obtain ⟨kid, S2, h2, h⟩ := bind_ok h
    obtain ⟨S3, h3, h⟩ := then_ok h
    cases h
    obtain ⟨rfl, hn⟩ := open_fair h1
    obtain ⟨a1, a2, a3, a4, a5⟩ := hl.expr _ _ _ h2
    rw [shut_fair h3]
    simp only at a1 a2 a3 a4 a5
    exact ⟨by simp [closeN, X.on]; omega, by simp [closeN, X.on]; omega, by simp [closeN, X.on]; omega, by simp [closeN, X.on]; omega, by simp [closeN, X.on]; omega⟩
  · exact atom_fair hl _ _ _ h
theorem conj_fair {ts : List Tk} {lo : Lv} (hl : LvFair lo) : FairF (conjP ts lo) := list_fair (unit_fair hl)
theorem expr_fair {ts : List Tk} {lo : Lv} (hl : LvFair lo) : FairF (exprP ts lo) := list_fair (conj_fair hl)
theorem lv_fair (ts : List Tk) : ∀ d, LvFair (lv ts d)
  | 0 => by
    have h0 : LvFair noLv := ⟨(fun S a S' h => by cases h), (fun S a S' h => by cases h), (fun S a S' h => by cases h)⟩
    exact ⟨expr_fair h0, unit_fair h0, term_fair h0⟩
  | d + 1 => ⟨expr_fair (lv_fair ts d), unit_fair (lv_fair ts d), term_fair (lv_fair ts d)⟩

end Go.Proofs.YtfiljgkcipnghaaGreatDoor.X
