/-
  No part's text is longer than the whole's.
-/
import Derived.Test.YteeojceloljcbaaDoorTextL
set_option linter.unusedVariables false
set_option linter.unusedSimpArgs false
namespace Go.Proofs.YteeojceloljcbaaDoor.P
open Go.RowKit Go.Proofs.YteeojceloljcbaaDoorW.PrintWords Go.Proofs.YteeojceloljcbaaDoorW.PrintLast

theorem formGo_free (l0 : List Pt) : ∀ (d i : Nat) (free : List Int), d = l0.length - i → i ≤ l0.length → (0 < i → ((i - 1 : Nat) : Int) ∈ free) → 0 < l0.length → formGo l0 (l0.drop i) i free = none →
    ∀ y ∈ free, y = ((l0.length - 1 : Nat) : Int) ∨ ∃ q : Nat, i ≤ q ∧ q < l0.length ∧ y ∈ (rd_T45 l0 (q : Int)).f3
  | 0, i, free, hd, hi, hm, h0, h => by
    obtain rfl : i = l0.length := by omega
    rw [List.drop_length] at h
    intro y hy
    have hl : free.length = 1 := by
      simp only [formGo] at h
      by_cases e : free.length = 1
      · exact e
      · simp [e] at h
    obtain ⟨z, rfl⟩ := List.length_eq_one_iff.1 hl
    have := hm h0
    simp only [List.mem_singleton] at this hy
    exact .inl (hy.trans this.symm)
  | d + 1, i, free, hd, hi, hm, h0, h => by
    have hlt : i < l0.length := by omega
    cases hs : stepB l0 (rd_T45 l0 (i : Int)) free with
    | false => rw [formGo_no l0 i free hlt hs] at h; cases h
    | true =>
      rw [formGo_yes l0 i free hlt hs] at h
      have ih := formGo_free l0 d (i + 1) _ (by omega) hlt (fun _ => by simp [stepF]) h0 h
      have hdrop : (rd_T45 l0 (i : Int)).f3 = free.drop (free.length - (rd_T45 l0 (i : Int)).f3.length) := by
        simp only [stepB, Bool.and_eq_true, beq_iff_eq] at hs; exact hs.1.2
      intro y hy
      rw [← List.take_append_drop (free.length - (rd_T45 l0 (i : Int)).f3.length) free] at hy
      rcases List.mem_append.1 hy with hy | hy
      · rcases ih y (List.mem_append_left _ hy) with e | ⟨q, h1, h2, h3⟩
        · exact .inl e
        · exact .inr ⟨q, by omega, h2, h3⟩
      · rw [← hdrop] at hy
        exact .inr ⟨i, Nat.le_refl _, hlt, hy⟩
theorem formGo_kid (l0 : List Pt) : ∀ (d i : Nat) (free : List Int), d = l0.length - i → i ≤ l0.length → formGo l0 (l0.drop i) i free = none →
    ∀ j : Nat, i ≤ j → j < l0.length → j = l0.length - 1 ∨ ∃ q : Nat, j < q ∧ q < l0.length ∧ (j : Int) ∈ (rd_T45 l0 (q : Int)).f3
  | 0, i, free, hd, hi, h => fun j h1 h2 => by omega
  | d + 1, i, free, hd, hi, h => by
    have hlt : i < l0.length := by omega
    cases hs : stepB l0 (rd_T45 l0 (i : Int)) free with
    | false => rw [formGo_no l0 i free hlt hs] at h; cases h
    | true =>
      rw [formGo_yes l0 i free hlt hs] at h
      intro j h1 h2
      by_cases e : j = i
      · subst e
        rcases formGo_free l0 d (j + 1) _ (by omega) hlt (fun _ => by simp [stepF]) (by omega) h (j : Int) (by simp [stepF]) with e | ⟨q, h3, h4, h5⟩
        · exact .inl (by omega)
        · exact .inr ⟨q, by omega, h4, h5⟩
      · exact formGo_kid l0 d (i + 1) _ (by omega) hlt h j (by omega) h2
theorem one_len (l0 : List Pt) (p : Pt) (f : Int → Bs) (x : Int) : (f x).length ≤ (oneT l0 p f x).length := by unfold oneT; split <;> simp; omega
theorem join_kid (l0 : List Pt) (p : Pt) (sep : Bs) (f : Int → Bs) (ks : List Int) (x : Int) (hx : x ∈ ks) : (f x).length ≤ (joinT l0 p sep f ks).length := by
  cases ks with
  | nil => cases hx
  | cons a ks =>
    have ho := one_len l0 p f x
    simp only [joinT, List.length_append]
    rcases List.mem_cons.1 hx with rfl | hx
    · omega
    · have : (oneT l0 p f x).length ≤ (ks.flatMap (fun k => sep ++ oneT l0 p f k)).length := by
        induction ks with
        | nil => cases hx
        | cons b ks ih =>
          simp only [List.flatMap_cons, List.length_append]
          rcases List.mem_cons.1 hx with rfl | hx
          · omega
          · have := ih (List.mem_cons_of_mem _ hx) hx; omega
      omega
theorem partT_kid (l0 : List Pt) (p : Pt) (f : Int → Bs) (h : partFitsB p = true) (x : Int) (hx : x ∈ p.f3) : (f x).length ≤ (partT l0 p f).length := by
  obtain ⟨k, s, n, ks⟩ := p
  simp only at hx
  have hj := fun sep => join_kid l0 ⟨k, s, n, ks⟩ sep f ks x hx
  simp only [partFitsB, Bool.and_eq_true] at h
  have hc := h.2.2
  have hne : ks.length ≠ 0 := fun e => by rw [List.length_eq_zero_iff.1 e] at hx; cases hx
  by_cases e3 : k = 3
  · subst e3; have := hj []; simp only [partT]; simp; omega
  by_cases e4 : k = 4
  · subst e4; exact hj _
  by_cases e5 : k = 5
  · subst e5; exact hj _
  by_cases e6 : k = 6
  · subst e6; exact hj _
  by_cases e7 : k = 7
  · subst e7; show _ ≤ (if n = 0 then _ else _ : Bs).length; split
    · exact hj _
    · exact hj _
  by_cases e8 : k = 8
  · subst e8; have := hj []; simp only [partT, selT]; simp; omega
  by_cases e9 : k = 9
  · subst e9; have := hj []; simp only [partT, selT]; simp; omega
  by_cases e20 : k = 20
  · subst e20; have := hj []; simp only [partT, selT]; simp; omega
  by_cases e13 : k = 13
  · subst e13; have := hj [44, 32]; simp only [partT, termT]; simp; omega
  by_cases e19 : k = 19
  · subst e19; have := hj []; simp only [partT, termT]; simp; omega
  · simp [kidCountB, e3, e4, e5, e6, e7, e8, e9, e20, e13, e19] at hc
    exact absurd (by simp [hc]) hne
theorem txt_most (l0 : List Pt) (h : formSpec l0 = none) : ∀ (d j : Nat), d = l0.length - 1 - j → j < l0.length → (txt l0 (j : Int)).length ≤ (txt l0 ((l0.length - 1 : Nat) : Int)).length := by
  have hS := formSpec_shape l0 h
  have hg : formGo l0 (l0.drop 0) 0 [] = none := by
    unfold formSpec at h
    have h0 := hS.pos
    have h1 := hS.few
    rwa [if_neg (by omega), if_neg (by omega)] at h
  intro d
  induction d using Nat.strongRecOn with
  | _ d ih =>
    intro j hd hj
    rcases formGo_kid l0 l0.length 0 [] rfl (Nat.zero_le _) hg j (Nat.zero_le _) hj with e | ⟨q, h1, h2, h3⟩
    · rw [e]; exact Nat.le_refl _
    · have hk := partT_kid l0 _ (txt l0) (hS.parts q h2).fit (j : Int) h3
      rw [← txt_eq l0 hS q h2] at hk
      exact Nat.le_trans hk (ih (l0.length - 1 - q) (by omega) q rfl h2)
end Go.Proofs.YteeojceloljcbaaDoor.P
