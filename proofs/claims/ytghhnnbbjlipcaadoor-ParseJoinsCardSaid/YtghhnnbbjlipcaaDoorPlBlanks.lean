/-
  Plain law: no token that is taken, or passed ahead of a fault, is the end.
  Plain law of ParseBlanks: the tokens with other gaps between.
  Plain law of ParseBlanks: every place is a token's; the answers over other gaps.
-/
import Derived.Test.YtghhnnbbjlipcaaDoorPlRest
import Derived.Test.YtghhnnbbjlipcaaDoorPlEither
set_option linter.unusedVariables false
set_option linter.unusedSimpArgs false
namespace Go.Proofs.YtghhnnbbjlipcaaDoor.X
def Cov (ts : List Tk) (a b : Nat) : Prop := ∀ i, a ≤ i → i < b → ¬ (ts.getD i endT).kind = 0
theorem Cov.nil {ts : List Tk} {a b : Nat} (h : b ≤ a) : Cov ts a b := fun i h1 h2 => absurd h1 (by omega)
theorem Cov.trans {ts : List Tk} {a b c : Nat} (h : Cov ts a b) (k : Cov ts b c) : Cov ts a c := fun i h1 h2 => by
  rcases Nat.lt_or_ge i b with h3 | h3
  · exact h i h1 h3
  · exact k i h3 h2
theorem Cov.one {ts : List Tk} {a : Nat} (h : ¬ (ts.getD a endT).kind = 0) : Cov ts a (a + 1) := fun i h1 h2 => by
  obtain rfl : i = a := by omega
  exact h
def endU : Except PF PS → Nat
  | .ok S => S.pos
  | .error e => e.2
def CovF (ts : List Tk) (f : PS → PR Nat) : Prop := ∀ S, Cov ts S.pos (endpos (f S))
theorem cov_bind {α β : Type} {ts : List Tk} {p : Nat} {x : PR α} {f : α → PS → PR β} (h : Cov ts p (endpos x)) (k : ∀ a S1, x = .ok (a, S1) → Cov ts S1.pos (endpos (f a S1))) : Cov ts p (endpos (bindS x f)) := by
  cases x with
  | error e => exact h
  | ok q => obtain ⟨a, S1⟩ := q; exact h.trans (k a S1 rfl)
theorem cov_then {β : Type} {ts : List Tk} {p : Nat} {x : Except PF PS} {f : PS → PR β} (h : Cov ts p (endU x)) (k : ∀ S1, x = .ok S1 → Cov ts S1.pos (endpos (f S1))) : Cov ts p (endpos (thenS x f)) := by
  cases x with
  | error e => exact h
  | ok S1 => exact h.trans (k S1 rfl)
theorem is_nz {ts : List Tk} {S : PS} {k : Int} {m : Bs} (h : isT ts S k m = true) (hk : ¬ k = 0) : ¬ (ts.getD S.pos endT).kind = 0 := by
  unfold isT pk at h; rw [Bool.and_eq_true] at h; rw [eq_of_beq h.1]; exact hk
theorem wrong_cov (ts : List Tk) (S : PS) : Cov ts S.pos (wrongP ts S).2 := by unfold wrongP; split <;> exact Cov.nil (Nat.le_refl _)
theorem mark_cov (ts : List Tk) (m : Bs) (S : PS) : Cov ts S.pos (endU (markP ts m S)) := by
  unfold markP
  split
  · rename_i h; exact Cov.one (is_nz h (by decide))
  · exact wrong_cov ts S
theorem open_cov (ts : List Tk) (m : Bs) (S : PS) : Cov ts S.pos (endU (openP ts m S)) := by
  unfold openP
  split
  · rename_i h
    split
    · exact Cov.nil (Nat.le_refl _)
    · exact Cov.one (is_nz h (by decide))
  · exact wrong_cov ts S
theorem shut_cov (ts : List Tk) (S : PS) : Cov ts S.pos (endU (shutP ts S)) := by
  have h := mark_cov ts [41] S
  unfold shutP
  cases hm : markP ts [41] S with
  | error f => rw [hm] at h; exact h
  | ok S1 => rw [hm] at h; exact h
theorem text_cov (ts : List Tk) (S : PS) : Cov ts S.pos (endpos (textP ts S)) := by
  unfold textP
  split
  · rename_i h; exact Cov.one (by unfold pk at h; rw [h]; decide)
  · exact wrong_cov ts S
theorem put_cov (ts : List Tk) (a : Nat) (p : PD) (S : PS) : Cov ts S.pos (endpos (putP a p S)) := Cov.nil (Nat.le_refl _)
theorem loop_cov {ts : List Tk} {m : Bs} {one : PS → PR Nat} (h1 : CovF ts one) : ∀ (n : Nat) (kids : List Nat) (S : PS), Cov ts S.pos (endpos (listLoop ts m one n kids S))
  | 0, kids, S => Cov.nil (Nat.le_refl _)
  | n + 1, kids, S => by
    simp only [listLoop]
    split
    · rename_i hi
      have h2 := (Cov.one (is_nz hi (by decide))).trans (h1 (on S))
      cases ho : one (on S) with
      | error f => rw [ho] at h2; exact h2
      | ok p =>
        obtain ⟨i, S1⟩ := p
        rw [ho] at h2
        exact h2.trans (loop_cov h1 n _ S1)
    · exact Cov.nil (Nat.le_refl _)
theorem list_cov {ts : List Tk} {m : Bs} {kind : Int} {one : PS → PR Nat} (h1 : CovF ts one) : CovF ts (listP ts m kind one) := by
  intro S
  unfold listP
  have h2 := h1 S
  cases ho : one S with
  | error f => rw [ho] at h2; exact h2
  | ok p =>
    obtain ⟨i, S1⟩ := p
    rw [ho] at h2
    simp only
    have h3 := loop_cov (m := m) h1 5000 [i] S1
    cases hl : listLoop ts m one 5000 [i] S1 with
    | error f => rw [hl] at h3; exact h2.trans h3
    | ok q =>
      obtain ⟨ks, S2⟩ := q
      rw [hl] at h3
      simp only [listEnd]
      split
      · exact h2.trans h3
      · exact h2.trans h3
structure LvCov (ts : List Tk) (lo : Lv) : Prop where
  expr : CovF ts lo.expr
  unit : CovF ts lo.unit
  term : CovF ts lo.term
theorem scoped_cov {ts : List Tk} {lo : Lv} (hl : LvCov ts lo) (kind : Int) (S : PS) (hk : ¬ (ts.getD S.pos endT).kind = 0) : Cov ts S.pos (endpos (scopedP ts lo kind S)) := by
  unfold scopedP
  refine (Cov.one hk).trans (cov_then (open_cov ts [40] (on S)) fun S1 _ => cov_bind (text_cov ts S1) fun key S2 _ => cov_then (mark_cov ts [44] S2) fun S3 _ => cov_bind (hl.expr S3) fun kid S4 _ => cov_then (shut_cov ts S4) fun S5 _ => put_cov ts _ _ _)
theorem owned_cov (ts : List Tk) : CovF ts (ownedP ts) := by
  intro S
  unfold ownedP
  split
  · exact wrong_cov ts S
  · rename_i hk
    have h3 : (ts.getD S.pos endT).kind = 3 := Classical.byContradiction fun e => hk (.inl e)
    refine (Cov.one (by rw [h3]; decide)).trans ?_
    show Cov ts (on S).pos _
    unfold ownK
    split
    · rename_i hi
      exact (Cov.one (is_nz hi (by decide))).trans (cov_bind (text_cov ts (on (on S))) fun s S2 _ => cov_then (mark_cov ts [93] S2) fun S3 _ => put_cov ts _ _ _)
    split
    · rename_i hi
      refine (Cov.one (is_nz hi (by decide))).trans ?_
      show Cov ts (on (on S)).pos _
      unfold ownN
      split
      · rename_i hj; exact Cov.one (is_nz hj (by decide))
      split
      · rename_i hj; exact Cov.one (is_nz hj (by decide))
      split
      · rename_i hj; exact Cov.one (is_nz hj (by decide))
      split
      · rename_i hj
        exact (Cov.one (is_nz hj (by decide))).trans (cov_then (mark_cov ts [40] (on (on (on S)))) fun S3 _ => cov_bind (text_cov ts S3) fun s S4 _ => cov_then (mark_cov ts [41] S4) fun S5 _ => put_cov ts _ _ _)
      · exact wrong_cov ts _
    · exact wrong_cov ts _
theorem setLoop_cov (ts : List Tk) : ∀ (n : Nat) (kids : List Nat) (S : PS), Cov ts S.pos (endpos (setLoop ts n kids S))
  | 0, kids, S => Cov.nil (Nat.le_refl _)
  | n + 1, kids, S => by
    simp only [setLoop]
    split
    · exact Cov.nil (Nat.le_refl _)
    · refine cov_then ?_ fun S1 _ => ?_
      · split
        · exact mark_cov ts [44] S
        · exact Cov.nil (Nat.le_refl _)
      · split
        · exact wrong_cov ts S1
        rename_i hk
        have hz : ¬ (ts.getD S1.pos endT).kind = 0 := fun e0 => hk ⟨by unfold pk; rw [e0]; decide, by unfold pk; rw [e0]; decide⟩
        split
        · exact Cov.nil (Nat.le_refl _)
        split
        · exact (Cov.one hz).trans (setLoop_cov ts n (kids ++ [S1.parts.length]) (putS S1.pos ⟨11, (pk ts S1).text, 0, []⟩ (on S1)))
        · exact (Cov.one hz).trans (setLoop_cov ts n (kids ++ [S1.parts.length]) (putS S1.pos ⟨12, [], (pk ts S1).num, []⟩ (on S1)))
/-- The elements end at the brace: one for each token at least. -/
theorem setLoop_ends (ts : List Tk) : ∀ (n : Nat) (kids : List Nat) (S : PS) (ks : List Nat) (S' : PS), ks.length < kids.length + n → setLoop ts n kids S = .ok (ks, S') → isT ts S' 4 [125] = true
  | 0, kids, S, ks, S', hn, h => by cases h; omega
  | n + 1, kids, S, ks, S', hn, h => by
    simp only [setLoop] at h
    split at h
    · rename_i hi; cases h; exact hi
    · obtain ⟨S1, h1, h⟩ := then_ok h
      split at h
      · cases h
      split at h
      · cases h
      split at h
      · exact setLoop_ends ts n _ _ _ _ (by simp; omega) h
      · exact setLoop_ends ts n _ _ _ _ (by simp; omega) h
theorem setLoop_64 (ts : List Tk) : ∀ (n : Nat) (kids : List Nat) (S : PS) (ks : List Nat) (S' : PS), kids.length ≤ 64 → setLoop ts n kids S = .ok (ks, S') → ks.length ≤ 64
  | 0, kids, S, ks, S', hk, h => by cases h; exact hk
  | n + 1, kids, S, ks, S', hk, h => by
    simp only [setLoop] at h
    split at h
    · cases h; exact hk
    · obtain ⟨S1, h1, h⟩ := then_ok h
      split at h
      · cases h
      split at h
      · cases h
      split at h
      · exact setLoop_64 ts n _ _ _ _ (by simp; omega) h
      · exact setLoop_64 ts n _ _ _ _ (by simp; omega) h
theorem set_cov (ts : List Tk) : CovF ts (setP ts) := by
  intro S
  unfold setP
  refine cov_then (mark_cov ts [123] S) fun S1 _ => ?_
  cases hx : setLoop ts 5000 [] S1 with
  | error e => have h := setLoop_cov ts 5000 [] S1; rw [hx] at h; exact h
  | ok q =>
    obtain ⟨ks, S2⟩ := q
    have h := setLoop_cov ts 5000 [] S1
    rw [hx] at h
    have h64 := setLoop_64 ts 5000 [] S1 ks S2 (by simp) hx
    have hi := setLoop_ends ts 5000 [] S1 ks S2 (by simp; omega) hx
    exact h.trans (Cov.one (is_nz hi (by decide)))
theorem term_cov {ts : List Tk} {lo : Lv} (hl : LvCov ts lo) : CovF ts (termP ts lo) := by
  intro S
  unfold termP
  simp only
  split
  · rename_i h; exact Cov.one (by unfold pk at h; rw [h]; decide)
  split
  · rename_i h; exact Cov.one (by unfold pk at h; rw [h]; decide)
  split
  · exact set_cov ts S
  split
  · rename_i hi
    exact (Cov.one (is_nz hi (by decide))).trans (cov_then (open_cov ts [40] (on S)) fun S1 _ => cov_bind (hl.term S1) fun kid S2 _ => cov_then (shut_cov ts S2) fun S3 _ => put_cov ts _ _ _)
  split
  · rename_i hi; exact scoped_cov hl 20 S (is_nz hi (by decide))
  · exact owned_cov ts S
theorem relation_cov (ts : List Tk) (S : PS) : Cov ts S.pos (endpos (relationP ts S)) := by
  unfold relationP
  repeat' split
  all_goals (first | exact wrong_cov ts S | (rename_i hi; exact Cov.one (is_nz hi (by decide))))
theorem cmp_cov {ts : List Tk} {lo : Lv} (hl : LvCov ts lo) : CovF ts (cmpP ts lo) := by
  intro S
  unfold cmpP
  exact cov_bind (term_cov hl S) fun l S1 _ => cov_bind (relation_cov ts S1) fun kn S2 _ => cov_bind (term_cov hl S2) fun r S3 _ => put_cov ts _ _ _
theorem atom_cov {ts : List Tk} {lo : Lv} (hl : LvCov ts lo) : CovF ts (atomP ts lo) := by
  intro S
  unfold atomP
  simp only
  split
  · rename_i hk
    have hz : ¬ (ts.getD S.pos endT).kind = 0 := by unfold pk at hk; rw [hk]; decide
    split
    · exact Cov.one hz
    split
    · exact Cov.one hz
    split
    · exact scoped_cov hl 8 S hz
    split
    · exact scoped_cov hl 9 S hz
    split
    · exact (Cov.one hz).trans (cov_then (mark_cov ts [40] (on S)) fun S1 _ => cov_bind (text_cov ts S1) fun s S2 _ => cov_then (mark_cov ts [41] S2) fun S3 _ => put_cov ts _ _ _)
    · exact cmp_cov hl S
  · exact cmp_cov hl S
theorem unit_cov {ts : List Tk} {lo : Lv} (hl : LvCov ts lo) : CovF ts (unitP ts lo) := by
  intro S
  unfold unitP
  split
  · exact cov_then (open_cov ts [33] S) fun S1 _ => cov_bind (hl.unit S1) fun kid S2 _ => put_cov ts _ _ (closeN S2)
  split
  · exact cov_then (open_cov ts [40] S) fun S1 _ => cov_bind (hl.expr S1) fun kid S2 _ => cov_then (shut_cov ts S2) fun S3 _ => Cov.nil (Nat.le_refl _)
  · exact atom_cov hl S
theorem level_cov {ts : List Tk} {lo : Lv} (hl : LvCov ts lo) : LvCov ts ⟨exprP ts lo, unitP ts lo, termP ts lo⟩ :=
  ⟨list_cov (list_cov (unit_cov hl)), unit_cov hl, term_cov hl⟩
theorem lv_cov (ts : List Tk) : ∀ d, LvCov ts (lv ts d)
  | 0 => level_cov ⟨fun S => Cov.nil (Nat.le_refl _), fun S => Cov.nil (Nat.le_refl _), fun S => Cov.nil (Nat.le_refl _)⟩
  | d + 1 => level_cov (lv_cov ts d)

end Go.Proofs.YtghhnnbbjlipcaaDoor.X

set_option linter.unusedVariables false
set_option linter.unusedSimpArgs false
namespace Go.Proofs.YtghhnnbbjlipcaaDoor.X
/-- A gap that parts two tokens. -/
structure Gp (g : Bs) : Prop where
  ne : g ≠ []
  sep : sepH g = true
  closed : Closed g
/-- The tokens' own bytes, a gap ahead of each. -/
def blOf (l : Bs) (G : Nat → Bs) : Nat → List Tk → Bs
  | _, [] => []
  | k, t :: ts => G k ++ (ownOf l t ++ blOf l G (k + 1) ts)
theorem blOf_snoc (l : Bs) (G : Nat → Bs) (t : Tk) : ∀ (ts : List Tk) (k : Nat), blOf l G k (ts ++ [t]) = blOf l G k ts ++ (G (k + ts.length) ++ ownOf l t)
  | [], k => by simp [blOf]
  | u :: ts, k => by
    simp only [List.cons_append, blOf, blOf_snoc l G t ts (k + 1), List.length_cons, List.append_assoc]
    rw [show k + 1 + ts.length = k + (ts.length + 1) by omega]
def itemsG (l : Bs) (G : Nat → Bs) : Nat → List Tk → List (Bs × Bs × Tk)
  | _, [] => []
  | k, t :: ts => (G k, ownOf l t, { t with at_ := 0, end_ := (ownOf l t).length }) :: itemsG l G (k + 1) ts
theorem bl_join (l : Bs) (G : Nat → Bs) (e : Bs) : ∀ (us : List Tk) (k : Nat), blOf l G k us ++ e = joinT (itemsG l G k us) e
  | [], k => rfl
  | t :: us, k => by simp only [blOf, itemsG, joinT, List.append_assoc]; rw [bl_join l G e us (k + 1)]
theorem items_mem {l : Bs} {G : Nat → Bs} : ∀ (us : List Tk) (k : Nat) (p : Bs × Bs × Tk), p ∈ itemsG l G k us → ∃ i t, t ∈ us ∧ p = (G i, ownOf l t, { t with at_ := 0, end_ := (ownOf l t).length })
  | [], k, p, h => by cases h
  | t :: us, k, p, h => by
    simp only [itemsG] at h
    rcases List.mem_cons.1 h with rfl | h
    · exact ⟨k, t, List.mem_cons_self, rfl⟩
    · obtain ⟨i, u, h1, h2⟩ := items_mem us (k + 1) p h; exact ⟨i, u, List.mem_cons_of_mem _ h1, h2⟩
theorem toks_g (l : Bs) (G : Nat → Bs) (total : Nat) : ∀ (us : List Tk) (k off : Nat), (toksT total off (itemsG l G k us)).length = us.length + 1 ∧
    (∀ j (h : j < us.length), ∃ h2 : j < (toksT total off (itemsG l G k us)).length, sameTk ((toksT total off (itemsG l G k us))[j]) us[j] ∧ ((toksT total off (itemsG l G k us))[j]).at_ = off + (blOf l G k (us.take j)).length + (G (k + j)).length) ∧
    (toksT total off (itemsG l G k us))[us.length]? = some ⟨0, [], 0, total, total⟩
  | [], k, off => ⟨rfl, fun j h => absurd h (Nat.not_lt_zero _), rfl⟩
  | t :: us, k, off => by
    obtain ⟨h1, h2, h3⟩ := toks_g l G total us (k + 1) (off + (G k).length + (ownOf l t).length)
    refine ⟨by simp only [itemsG, toksT, List.length_cons]; rw [h1], fun j h => ?_, by simpa [itemsG, toksT] using h3⟩
    cases j with
    | zero => exact ⟨by simp only [itemsG, toksT, List.length_cons]; omega, ⟨rfl, rfl, rfl⟩, by simp [itemsG, toksT, blOf]⟩
    | succ j =>
      obtain ⟨k1, k2, k3⟩ := h2 j (by simpa using h)
      refine ⟨by simp only [itemsG, toksT, List.length_cons]; omega, k2, ?_⟩
      simp only [itemsG, toksT, List.getElem_cons_succ] at k3 ⊢
      rw [k3]
      simp only [List.take_succ_cons, blOf, List.length_append]
      rw [show k + 1 + j = k + (j + 1) by omega]
      omega
/-- With other gaps the same tokens come, each where its own bytes stand now. -/
theorem scan_gaps {l : Bs} {ts : List Tk} (h : scanL l = (ts, none)) {G : Nat → Bs} (hG : ∀ i, Gp (G i)) (hw : (blOf l G 0 ts).length ≤ 4096) :
    ∃ vs, scanL (blOf l G 0 ts) = (vs, none) ∧ vs.length = ts.length ∧ ∀ j (h1 : j < ts.length), eqT (ts.getD j endT) (vs.getD j endT) ∧ (vs.getD j endT).at_ = (blOf l G 0 (ts.take j)).length + (G j).length := by
  obtain ⟨hl, hc⟩ := prefix_chain h
  obtain ⟨us, rfl, hu⟩ := chain_toks hc
  have hown : ownOf l ⟨0, [], 0, l.length, l.length⟩ = [] := by simp [ownOf]
  have hbl : blOf l G 0 (us ++ [⟨0, [], 0, l.length, l.length⟩]) = joinT (itemsG l G 0 us) (G us.length) := by
    rw [blOf_snoc, hown, List.append_nil, Nat.zero_add, bl_join]
  rw [hbl] at hw ⊢
  have hj := chain_join (G us.length) (hG _).closed (hG _).sep (itemsG l G 0 us) [] (fun p hp => by
    obtain ⟨i, t, ht, rfl⟩ := items_mem us 0 p hp
    obtain ⟨h1, h2, h3⟩ := hu t ht
    obtain ⟨k1, k2, k3, k4⟩ := own_tok h1 h2 h3
    exact ⟨(hG i).ne, (hG i).sep, (hG i).closed, k1, h3, rfl⟩)
  simp only [List.nil_append, List.length_nil] at hj
  obtain ⟨s1, s2, s3⟩ := toks_g l G (joinT (itemsG l G 0 us) (G us.length)).length us 0 0
  refine ⟨_, chain_prefix hw hj, by rw [s1]; simp, fun j h1 => ?_⟩
  rcases Nat.lt_or_ge j us.length with h2 | h2
  · obtain ⟨k1, k2, k3⟩ := s2 j h2
    rw [List.getD_eq_getElem?_getD, List.getD_eq_getElem?_getD, List.getElem?_eq_getElem k1, List.getElem?_append_left h2, List.getElem?_eq_getElem h2]
    simp only [Option.getD_some]
    refine ⟨⟨k2.1.symm, k2.2.1.symm, k2.2.2.symm⟩, ?_⟩
    rw [k3, Nat.zero_add, Nat.zero_add, List.take_append_of_le_length (by omega)]
  · obtain rfl : j = us.length := by simp at h1; omega
    rw [List.getD_eq_getElem?_getD, List.getD_eq_getElem?_getD, s3, List.getElem?_append_right (Nat.le_refl _), Nat.sub_self]
    simp only [List.getElem?_cons_zero, Option.getD_some]
    refine ⟨⟨rfl, rfl, rfl⟩, ?_⟩
    rw [List.take_left, ← bl_join, List.length_append]
/-- A tree over the same tokens. -/
theorem tree_same {ts us : List Tk} (h : ∀ i, eqT (ts.getD i endT) (us.getD i endT)) : (treeOf us = treeOf ts) := by
  have hat : ∀ i, AtI ⟨ts, us, 0, [], [], 0⟩ i := fun i => h i
  have hsim := (lv_sim ⟨ts, us, 0, [], [], 0⟩ 32 0 rfl).expr ⟨0, 0, [], []⟩ rfl
  have e0 : sh ⟨ts, us, 0, [], [], 0⟩ ⟨0, 0, [], []⟩ = ⟨0, 0, [], []⟩ := rfl
  rw [e0] at hsim
  simp only [Nat.add_zero] at hsim
  have hid : ∀ S : PS, sh ⟨ts, us, 0, [], [], 0⟩ S = S := fun S => by
    obtain ⟨p, n, ps, os⟩ := S
    have e1 : ps.map (shP 0) = ps := by
      have : ∀ p : PD, shP 0 p = p := fun p => by obtain ⟨a, b, c, d⟩ := p; simp [shP]
      rw [List.map_congr_left (fun p _ => this p), List.map_id']
    simp [sh, e1]
  unfold treeOf
  cases hx : (lv ts 32).expr ⟨0, 0, [], []⟩ with
  | error f =>
    rw [hx] at hsim
    have h2 := hsim.2 (fun j hj => hat j)
    cases hy : (lv us 32).expr ⟨0, 0, [], []⟩ with
    | error f' =>
      rw [hy] at h2
      rcases h2 with h2 | ⟨h2, _⟩
      · rw [h2]; rfl
      · exact absurd h2 (Nat.lt_irrefl _)
    | ok q => rw [hy] at h2; exact h2.elim
  | ok p =>
    obtain ⟨i, S⟩ := p
    rw [hx] at hsim
    have h2 := hsim.2 ⟨fun j hj => hat j, (hat S.pos).cl⟩
    have hkk : (pk us S).kind = (pk ts S).kind := by unfold pk; exact (h S.pos).1.symm
    cases hy : (lv us 32).expr ⟨0, 0, [], []⟩ with
    | error f' => rw [hy] at h2; exact absurd h2.1 (Nat.lt_irrefl _)
    | ok q =>
      obtain ⟨y, T⟩ := q
      rw [hy] at h2
      obtain ⟨_, rfl⟩ := h2
      rw [hid S]
      simp only
      rw [hkk]
      unfold wrongP
      rw [hkk]

end Go.Proofs.YtghhnnbbjlipcaaDoor.X

set_option linter.unusedVariables false
set_option linter.unusedSimpArgs false
namespace Go.Proofs.YtghhnnbbjlipcaaDoor.X
theorem cov_lt {ts : List Tk} (h0 : 0 < ts.length) (he : (ts.getD (ts.length - 1) endT).kind = 0) {b : Nat} (h : Cov ts 0 b) : b < ts.length := by
  rcases Nat.lt_or_ge b ts.length with h1 | h1
  · exact h1
  · exact absurd he (h (ts.length - 1) (Nat.zero_le _) (by omega))
theorem chain_last {l : Bs} {ts : List Tk} (h : Chain l 0 ts) : 0 < ts.length ∧ (ts.getD (ts.length - 1) endT).kind = 0 := by
  obtain ⟨us, rfl, _⟩ := chain_toks h
  refine ⟨by simp, ?_⟩
  rw [List.getD_eq_getElem?_getD, List.length_append, List.length_cons, List.length_nil, Nat.add_sub_cancel, List.getElem?_append_right (Nat.le_refl _), Nat.sub_self]
  rfl
theorem tree_in_err {l : Bs} {ts : List Tk} (h : Chain l 0 ts) {e : PF} (ht : treeOf ts = .error e) : e.2 < ts.length := by
  obtain ⟨h0, he⟩ := chain_last h
  have hcov := (lv_cov ts 32).expr ⟨0, 0, [], []⟩
  have hbd := (lv_builds (chain_short h) 32).expr
  unfold treeOf at ht
  cases hx : (lv ts 32).expr ⟨0, 0, [], []⟩ with
  | error f =>
    rw [hx] at ht hcov
    injection ht with ht
    subst ht
    exact cov_lt h0 he hcov
  | ok p =>
    obtain ⟨i, S⟩ := p
    rw [hx] at ht hcov
    have hp : S.pos < ts.length := cov_lt h0 he hcov
    simp only at ht
    split at ht
    · split at ht
      · rename_i hb
        injection ht with ht
        subst ht
        obtain ⟨_, new, no, k1, k2, k3, k4, k5⟩ := hbd _ _ _ hx
        simp only [List.nil_append] at k1 k2
        have hl : 1000 < no.length := by rw [← k3, ← k1]; exact hb
        have hm : (new[1000]'(by omega), no[1000]) ∈ new.zip no := by
          have : (new.zip no)[1000]? = some (new[1000]'(by omega), no[1000]) := by rw [List.getElem?_zip_eq_some]; exact ⟨List.getElem?_eq_getElem _, List.getElem?_eq_getElem _⟩
          exact List.mem_of_getElem? this
        have := (k5 _ hm).2.1
        simp only at this ⊢
        rw [k2, List.getD_eq_getElem?_getD, List.getElem?_eq_getElem hl]
        simp only [Option.getD_some]
        omega
      · cases ht
    · injection ht with ht
      rw [← ht, wrong_at]; exact hp
theorem tree_in_ok {l : Bs} {ts : List Tk} (h : Chain l 0 ts) {ps : List PD} {offs : List Nat} (ht : treeOf ts = .ok (ps, offs)) : ∀ o ∈ offs, o < ts.length := by
  obtain ⟨h0, he⟩ := chain_last h
  have hcov := (lv_cov ts 32).expr ⟨0, 0, [], []⟩
  have hbd := (lv_builds (chain_short h) 32).expr
  unfold treeOf at ht
  cases hx : (lv ts 32).expr ⟨0, 0, [], []⟩ with
  | error f => rw [hx] at ht; cases ht
  | ok p =>
    obtain ⟨i, S⟩ := p
    rw [hx] at ht hcov
    have hp : S.pos < ts.length := cov_lt h0 he hcov
    simp only at ht
    split at ht
    · split at ht
      · cases ht
      · injection ht with ht
        injection ht with e1 e2
        obtain ⟨_, new, no, k1, k2, k3, k4, k5⟩ := hbd _ _ _ hx
        simp only [List.nil_append] at k1 k2
        intro o ho
        rw [← e2, k2] at ho
        obtain ⟨j, hj, rfl⟩ := List.getElem_of_mem ho
        have hm : (new[j]'(by omega), no[j]) ∈ new.zip no := by
          have : (new.zip no)[j]? = some (new[j]'(by omega), no[j]) := by rw [List.getElem?_zip_eq_some]; exact ⟨List.getElem?_eq_getElem _, List.getElem?_eq_getElem _⟩
          exact List.mem_of_getElem? this
        have := (k5 _ hm).2.1
        simp only at this
        omega
    · cases ht
/-- The place of token i in the source with these gaps. -/
def movedG (l : Bs) (ts : List Tk) (G : Nat → Bs) (i : Nat) : Nat := (blOf l G 0 (ts.take i)).length + (G i).length
/-- Over other gaps the same tree comes, each part where its token stands now; or the same fault. -/
theorem blanks_cases {l : Bs} {ts : List Tk} (h : scanL l = (ts, none)) {G : Nat → Bs} (hG : ∀ i, Gp (G i)) (hw : (blOf l G 0 ts).length ≤ 4096) :
    (∃ (ps : List PD) (offs : List Nat), parseL l = .ok (ps, offs.map (placeT ts)) ∧ parseL (blOf l G 0 ts) = .ok (ps, offs.map (movedG l ts G)) ∧ ∀ o ∈ offs, o < ts.length) ∨
    ∃ (c : Int) (j : Nat), parseL l = .error (c, placeT ts j) ∧ parseL (blOf l G 0 ts) = .error (c, movedG l ts G j) ∧ j < ts.length ∧ 120 ≤ c ∧ c ≤ 124 := by
  obtain ⟨vs, hv, hlen, hs⟩ := scan_gaps h hG hw
  obtain ⟨hl, hc⟩ := prefix_chain h
  have hall : ∀ i, eqT (ts.getD i endT) (vs.getD i endT) := fun i => by
    rcases Nat.lt_or_ge i ts.length with h1 | h1
    · exact (hs i h1).1
    · rw [List.getD_eq_getElem?_getD, List.getD_eq_getElem?_getD, List.getElem?_eq_none h1, List.getElem?_eq_none (by omega)]; exact ⟨rfl, rfl, rfl⟩
  have ht := tree_same hall
  have hpl : ∀ i, i < ts.length → placeT vs i = movedG l ts G i := fun i hi => (hs i hi).2
  unfold parseL
  rw [h, hv]
  simp only
  rw [ht]
  cases hx : treeOf ts with
  | ok p =>
    obtain ⟨ps, offs⟩ := p
    have hin := tree_in_ok hc hx
    refine .inl ⟨ps, offs, rfl, ?_, hin⟩
    simp only
    rw [List.map_congr_left (fun o ho => hpl o (hin o ho))]
  | error e =>
    have hin := tree_in_err hc hx
    obtain ⟨c, j⟩ := e
    refine .inr ⟨c, j, rfl, by simp only; rw [hpl j hin], hin, ?_⟩
    rcases tree_err hx with (⟨h1, _⟩ | ⟨h1, _⟩) | ⟨h1, _⟩ <;> simp only at h1 <;> omega

end Go.Proofs.YtghhnnbbjlipcaaDoor.X

