/-
  Plain law of ParseBlanks: the tokens with other gaps between.
-/
import Derived.Test.YtghhnnbbjlipcaaDoorPlEither
import Derived.Test.YtghhnnbbjlipcaaDoorPlG
set_option linter.unusedVariables false
set_option linter.unusedSimpArgs false
namespace Go.Proofs.YtghhnnbbjlipcaaDoor.X
/-- A gap that parts two tokens. -/
structure Gp (g : Bs) : Prop where
  ne : g ≠ []
  sep : sepH g = true
  closed : Closed g
/-- The tokens' own bytes, a gap ahead of each. -/
def blOf (l : Bs) (G : Nat → Bs) : Nat → List Tk → Bs
  | _, [] => []
  | k, t :: ts => G k ++ (ownOf l t ++ blOf l G (k + 1) ts)
theorem blOf_snoc (l : Bs) (G : Nat → Bs) (t : Tk) : ∀ (ts : List Tk) (k : Nat), blOf l G k (ts ++ [t]) = blOf l G k ts ++ (G (k + ts.length) ++ ownOf l t)
  | [], k => by simp [blOf]
  | u :: ts, k => by
    simp only [List.cons_append, blOf, blOf_snoc l G t ts (k + 1), List.length_cons, List.append_assoc]
    rw [show k + 1 + ts.length = k + (ts.length + 1) by omega]
def itemsG (l : Bs) (G : Nat → Bs) : Nat → List Tk → List (Bs × Bs × Tk)
  | _, [] => []
  | k, t :: ts => (G k, ownOf l t, { t with at_ := 0, end_ := (ownOf l t).length }) :: itemsG l G (k + 1) ts
theorem bl_join (l : Bs) (G : Nat → Bs) (e : Bs) : ∀ (us : List Tk) (k : Nat), blOf l G k us ++ e = joinT (itemsG l G k us) e
  | [], k => rfl
  | t :: us, k => by simp only [blOf, itemsG, joinT, List.append_assoc]; rw [bl_join l G e us (k + 1)]
theorem items_mem {l : Bs} {G : Nat → Bs} : ∀ (us : List Tk) (k : Nat) (p : Bs × Bs × Tk), p ∈ itemsG l G k us → ∃ i t, t ∈ us ∧ p = (G i, ownOf l t, { t with at_ := 0, end_ := (ownOf l t).length })
  | [], k, p, h => by cases h
  | t :: us, k, p, h => by
    simp only [itemsG] at h
    rcases List.mem_cons.1 h with rfl | h
    · exact ⟨k, t, List.mem_cons_self, rfl⟩
    · obtain ⟨i, u, h1, h2⟩ := items_mem us (k + 1) p h; exact ⟨i, u, List.mem_cons_of_mem _ h1, h2⟩
theorem toks_g (l : Bs) (G : Nat → Bs) (total : Nat) : ∀ (us : List Tk) (k off : Nat), (toksT total off (itemsG l G k us)).length = us.length + 1 ∧
    (∀ j (h : j < us.length), ∃ h2 : j < (toksT total off (itemsG l G k us)).length, sameTk ((toksT total off (itemsG l G k us))[j]) us[j] ∧ ((toksT total off (itemsG l G k us))[j]).at_ = off + (blOf l G k (us.take j)).length + (G (k + j)).length) ∧
    (toksT total off (itemsG l G k us))[us.length]? = some ⟨0, [], 0, total, total⟩
  | [], k, off => ⟨rfl, fun j h => absurd h (Nat.not_lt_zero _), rfl⟩
  | t :: us, k, off => by
    obtain ⟨h1, h2, h3⟩ := toks_g l G total us (k + 1) (off + (G k).length + (ownOf l t).length)
    refine ⟨by simp only [itemsG, toksT, List.length_cons]; rw [h1], fun j h => ?_, by simpa [itemsG, toksT] using h3⟩
    cases j with
    | zero => exact ⟨by simp only [itemsG, toksT, List.length_cons]; omega, ⟨rfl, rfl, rfl⟩, by simp [itemsG, toksT, blOf]⟩
    | succ j =>
      obtain ⟨k1, k2, k3⟩ := h2 j (by simpa using h)
      refine ⟨by simp only [itemsG, toksT, List.length_cons]; omega, k2, ?_⟩
      simp only [itemsG, toksT, List.getElem_cons_succ] at k3 ⊢
      rw [k3]
      simp only [List.take_succ_cons, blOf, List.length_append]
      rw [show k + 1 + j = k + (j + 1) by omega]
      omega
/-- With other gaps the same tokens come, each where its own bytes stand now. -/
theorem scan_gaps {l : Bs} {ts : List Tk} (h : scanL l = (ts, none)) {G : Nat → Bs} (hG : ∀ i, Gp (G i)) (hw : (blOf l G 0 ts).length ≤ 4096) :
    ∃ vs, scanL (blOf l G 0 ts) = (vs, none) ∧ vs.length = ts.length ∧ ∀ j (h1 : j < ts.length), eqT (ts.getD j endT) (vs.getD j endT) ∧ (vs.getD j endT).at_ = (blOf l G 0 (ts.take j)).length + (G j).length := by
  obtain ⟨hl, hc⟩ := prefix_chain h
  obtain ⟨us, rfl, hu⟩ := chain_toks hc
  have hown : ownOf l ⟨0, [], 0, l.length, l.length⟩ = [] := by simp [ownOf]
  have hbl : blOf l G 0 (us ++ [⟨0, [], 0, l.length, l.length⟩]) = joinT (itemsG l G 0 us) (G us.length) := by
    rw [blOf_snoc, hown, List.append_nil, Nat.zero_add, bl_join]
  rw [hbl] at hw ⊢
  have hj := chain_join (G us.length) (hG _).closed (hG _).sep (itemsG l G 0 us) [] (fun p hp => by
    obtain ⟨i, t, ht, rfl⟩ := items_mem us 0 p hp
    obtain ⟨h1, h2, h3⟩ := hu t ht
    obtain ⟨k1, k2, k3, k4⟩ := own_tok h1 h2 h3
    exact ⟨(hG i).ne, (hG i).sep, (hG i).closed, k1, h3, rfl⟩)
  simp only [List.nil_append, List.length_nil] at hj
  obtain ⟨s1, s2, s3⟩ := toks_g l G (joinT (itemsG l G 0 us) (G us.length)).length us 0 0
  refine ⟨_, chain_prefix hw hj, by rw [s1]; simp, fun j h1 => ?_⟩
  rcases Nat.lt_or_ge j us.length with h2 | h2
  · obtain ⟨k1, k2, k3⟩ := s2 j h2
    rw [List.getD_eq_getElem?_getD, List.getD_eq_getElem?_getD, List.getElem?_eq_getElem k1, List.getElem?_append_left h2, List.getElem?_eq_getElem h2]
    simp only [Option.getD_some]
    refine ⟨⟨k2.1.symm, k2.2.1.symm, k2.2.2.symm⟩, ?_⟩
    rw [k3, Nat.zero_add, Nat.zero_add, List.take_append_of_le_length (by omega)]
  · obtain rfl : j = us.length := by simp at h1; omega
    rw [List.getD_eq_getElem?_getD, List.getD_eq_getElem?_getD, s3, List.getElem?_append_right (Nat.le_refl _), Nat.sub_self]
    simp only [List.getElem?_cons_zero, Option.getD_some]
    refine ⟨⟨rfl, rfl, rfl⟩, ?_⟩
    rw [List.take_left, ← bl_join, List.length_append]
/-- A tree over the same tokens. -/
theorem tree_same {ts us : List Tk} (h : ∀ i, eqT (ts.getD i endT) (us.getD i endT)) : (treeOf us = treeOf ts) := by
  have hat : ∀ i, AtI ⟨ts, us, 0, [], [], 0⟩ i := fun i => h i
  have hsim := (lv_sim ⟨ts, us, 0, [], [], 0⟩ 32 0 rfl).expr ⟨0, 0, [], []⟩ rfl
  have e0 : sh ⟨ts, us, 0, [], [], 0⟩ ⟨0, 0, [], []⟩ = ⟨0, 0, [], []⟩ := rfl
  rw [e0] at hsim
  simp only [Nat.add_zero] at hsim
  have hid : ∀ S : PS, sh ⟨ts, us, 0, [], [], 0⟩ S = S := fun S => by
    obtain ⟨p, n, ps, os⟩ := S
    have e1 : ps.map (shP 0) = ps := by
      have : ∀ p : PD, shP 0 p = p := fun p => by obtain ⟨a, b, c, d⟩ := p; simp [shP]
      rw [List.map_congr_left (fun p _ => this p), List.map_id']
    simp [sh, e1]
  unfold treeOf
  cases hx : (lv ts 32).expr ⟨0, 0, [], []⟩ with
  | error f =>
    rw [hx] at hsim
    have h2 := hsim.2 (fun j hj => hat j)
    cases hy : (lv us 32).expr ⟨0, 0, [], []⟩ with
    | error f' =>
      rw [hy] at h2
      rcases h2 with h2 | ⟨h2, _⟩
      · rw [h2]; rfl
      · exact absurd h2 (Nat.lt_irrefl _)
    | ok q => rw [hy] at h2; exact h2.elim
  | ok p =>
    obtain ⟨i, S⟩ := p
    rw [hx] at hsim
    have h2 := hsim.2 ⟨fun j hj => hat j, (hat S.pos).cl⟩
    have hkk : (pk us S).kind = (pk ts S).kind := by unfold pk; exact (h S.pos).1.symm
    cases hy : (lv us 32).expr ⟨0, 0, [], []⟩ with
    | error f' => rw [hy] at h2; exact absurd h2.1 (Nat.lt_irrefl _)
    | ok q =>
      obtain ⟨y, T⟩ := q
      rw [hy] at h2
      obtain ⟨_, rfl⟩ := h2
      rw [hid S]
      simp only
      rw [hkk]
      unfold wrongP
      rw [hkk]

end Go.Proofs.YtghhnnbbjlipcaaDoor.X
