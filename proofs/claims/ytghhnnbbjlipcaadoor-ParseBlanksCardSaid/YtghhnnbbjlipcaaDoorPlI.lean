/-
  Plain law of ParseBlanks: every place is a token's; the answers over other gaps.
-/
import Derived.Test.YtghhnnbbjlipcaaDoorPlH
set_option linter.unusedVariables false
set_option linter.unusedSimpArgs false
namespace Go.Proofs.YtghhnnbbjlipcaaDoor.X
theorem cov_lt {ts : List Tk} (h0 : 0 < ts.length) (he : (ts.getD (ts.length - 1) endT).kind = 0) {b : Nat} (h : Cov ts 0 b) : b < ts.length := by
  rcases Nat.lt_or_ge b ts.length with h1 | h1
  · exact h1
  · exact absurd he (h (ts.length - 1) (Nat.zero_le _) (by omega))
theorem chain_last {l : Bs} {ts : List Tk} (h : Chain l 0 ts) : 0 < ts.length ∧ (ts.getD (ts.length - 1) endT).kind = 0 := by
  obtain ⟨us, rfl, _⟩ := chain_toks h
  refine ⟨by simp, ?_⟩
  rw [List.getD_eq_getElem?_getD, List.length_append, List.length_cons, List.length_nil, Nat.add_sub_cancel, List.getElem?_append_right (Nat.le_refl _), Nat.sub_self]
  rfl
theorem tree_in_err {l : Bs} {ts : List Tk} (h : Chain l 0 ts) {e : PF} (ht : treeOf ts = .error e) : e.2 < ts.length := by
  obtain ⟨h0, he⟩ := chain_last h
  have hcov := (lv_cov ts 32).expr ⟨0, 0, [], []⟩
  have hbd := (lv_builds (chain_short h) 32).expr
  unfold treeOf at ht
  cases hx : (lv ts 32).expr ⟨0, 0, [], []⟩ with
  | error f =>
    rw [hx] at ht hcov
    injection ht with ht
    subst ht
    exact cov_lt h0 he hcov
  | ok p =>
    obtain ⟨i, S⟩ := p
    rw [hx] at ht hcov
    have hp : S.pos < ts.length := cov_lt h0 he hcov
    simp only at ht
    split at ht
    · split at ht
      · rename_i hb
        injection ht with ht
        subst ht
        obtain ⟨_, new, no, k1, k2, k3, k4, k5⟩ := hbd _ _ _ hx
        simp only [List.nil_append] at k1 k2
        have hl : 1000 < no.length := by rw [← k3, ← k1]; exact hb
        have hm : (new[1000]'(by omega), no[1000]) ∈ new.zip no := by
          have : (new.zip no)[1000]? = some (new[1000]'(by omega), no[1000]) := by rw [List.getElem?_zip_eq_some]; exact ⟨List.getElem?_eq_getElem _, List.getElem?_eq_getElem _⟩
          exact List.mem_of_getElem? this
        have := (k5 _ hm).2.1
        simp only at this ⊢
        rw [k2, List.getD_eq_getElem?_getD, List.getElem?_eq_getElem hl]
        simp only [Option.getD_some]
        omega
      · cases ht
    · injection ht with ht
      rw [← ht, wrong_at]; exact hp
theorem tree_in_ok {l : Bs} {ts : List Tk} (h : Chain l 0 ts) {ps : List PD} {offs : List Nat} (ht : treeOf ts = .ok (ps, offs)) : ∀ o ∈ offs, o < ts.length := by
  obtain ⟨h0, he⟩ := chain_last h
  have hcov := (lv_cov ts 32).expr ⟨0, 0, [], []⟩
  have hbd := (lv_builds (chain_short h) 32).expr
  unfold treeOf at ht
  cases hx : (lv ts 32).expr ⟨0, 0, [], []⟩ with
  | error f => rw [hx] at ht; cases ht
  | ok p =>
    obtain ⟨i, S⟩ := p
    rw [hx] at ht hcov
    have hp : S.pos < ts.length := cov_lt h0 he hcov
    simp only at ht
    split at ht
    · split at ht
      · cases ht
      · injection ht with ht
        injection ht with e1 e2
        obtain ⟨_, new, no, k1, k2, k3, k4, k5⟩ := hbd _ _ _ hx
        simp only [List.nil_append] at k1 k2
        intro o ho
        rw [← e2, k2] at ho
        obtain ⟨j, hj, rfl⟩ := List.getElem_of_mem ho
        have hm : (new[j]'(by omega), no[j]) ∈ new.zip no := by
          have : (new.zip no)[j]? = some (new[j]'(by omega), no[j]) := by rw [List.getElem?_zip_eq_some]; exact ⟨List.getElem?_eq_getElem _, List.getElem?_eq_getElem _⟩
          exact List.mem_of_getElem? this
        have := (k5 _ hm).2.1
        simp only at this
        omega
    · cases ht
/-- The place of token i in the source with these gaps. -/
def movedG (l : Bs) (ts : List Tk) (G : Nat → Bs) (i : Nat) : Nat := (blOf l G 0 (ts.take i)).length + (G i).length
/-- Over other gaps the same tree comes, each part where its token stands now; or the same fault. -/
theorem blanks_cases {l : Bs} {ts : List Tk} (h : scanL l = (ts, none)) {G : Nat → Bs} (hG : ∀ i, Gp (G i)) (hw : (blOf l G 0 ts).length ≤ 4096) :
    (∃ (ps : List PD) (offs : List Nat), parseL l = .ok (ps, offs.map (placeT ts)) ∧ parseL (blOf l G 0 ts) = .ok (ps, offs.map (movedG l ts G)) ∧ ∀ o ∈ offs, o < ts.length) ∨
    ∃ (c : Int) (j : Nat), parseL l = .error (c, placeT ts j) ∧ parseL (blOf l G 0 ts) = .error (c, movedG l ts G j) ∧ j < ts.length ∧ 120 ≤ c ∧ c ≤ 124 := by
  obtain ⟨vs, hv, hlen, hs⟩ := scan_gaps h hG hw
  obtain ⟨hl, hc⟩ := prefix_chain h
  have hall : ∀ i, eqT (ts.getD i endT) (vs.getD i endT) := fun i => by
    rcases Nat.lt_or_ge i ts.length with h1 | h1
    · exact (hs i h1).1
    · rw [List.getD_eq_getElem?_getD, List.getD_eq_getElem?_getD, List.getElem?_eq_none h1, List.getElem?_eq_none (by omega)]; exact ⟨rfl, rfl, rfl⟩
  have ht := tree_same hall
  have hpl : ∀ i, i < ts.length → placeT vs i = movedG l ts G i := fun i hi => (hs i hi).2
  unfold parseL
  rw [h, hv]
  simp only
  rw [ht]
  cases hx : treeOf ts with
  | ok p =>
    obtain ⟨ps, offs⟩ := p
    have hin := tree_in_ok hc hx
    refine .inl ⟨ps, offs, rfl, ?_, hin⟩
    simp only
    rw [List.map_congr_left (fun o ho => hpl o (hin o ho))]
  | error e =>
    have hin := tree_in_err hc hx
    obtain ⟨c, j⟩ := e
    refine .inr ⟨c, j, rfl, by simp only; rw [hpl j hin], hin, ?_⟩
    rcases tree_err hx with (⟨h1, _⟩ | ⟨h1, _⟩) | ⟨h1, _⟩ <;> simp only at h1 <;> omega

end Go.Proofs.YtghhnnbbjlipcaaDoor.X
