/-
  The plain law of a tree with one more part over its whole: shape, nests, text.
-/
import Derived.Test.YteeojceloljcbaaDoorTextP
import Derived.Test.YteeojceloljcbaaDoorRefV
set_option linter.unusedVariables false
set_option linter.unusedSimpArgs false
namespace Go.Proofs.YteeojceloljcbaaDoor.P
open Go.RowKit Go.Proofs.YteeojceloljcbaaDoorW.PrintWords Go.Proofs.YteeojceloljcbaaDoorW.PrintLast

/-- One more part over the whole. -/
def hungL (l0 : List Pt) (k : Int) (s : ByteArray) : List Pt := l0 ++ [⟨k, s, 0, [((l0.length - 1 : Nat) : Int)]⟩]
theorem hung_len (l0 : List Pt) (k : Int) (s : ByteArray) : (hungL l0 k s).length = l0.length + 1 := by simp [hungL]
theorem hung_rd (l0 : List Pt) (k : Int) (s : ByteArray) (j : Nat) (hj : j < l0.length) : rdp (hungL l0 k s) (j : Int) = rdp l0 (j : Int) := by
  simp [hungL, rd_T45, List.getD_eq_getElem?_getD, List.getElem?_append_left hj]
theorem hung_rdI (l0 : List Pt) (k : Int) (s : ByteArray) (x : Int) (h0 : 0 ≤ x) (h1 : x < (l0.length : Int)) : rdp (hungL l0 k s) x = rdp l0 x := by
  have := hung_rd l0 k s x.toNat (by omega)
  rwa [show ((x.toNat : Nat) : Int) = x by omega] at this
theorem hung_last (l0 : List Pt) (k : Int) (s : ByteArray) : rdp (hungL l0 k s) (l0.length : Int) = ⟨k, s, 0, [((l0.length - 1 : Nat) : Int)]⟩ := by
  simp [hungL, rd_T45, List.getD_eq_getElem?_getD]

theorem hung_form_go (l0 : List Pt) (k : Int) (s : ByteArray) (hS : Shape l0) (hp : partFitsB ⟨k, s, 0, [((l0.length - 1 : Nat) : Int)]⟩ = true) (hk : kidFitsB k (rdp l0 ((l0.length - 1 : Nat) : Int)).f0 = true) (hc : condB k = true) :
    ∀ (d i : Nat) (free : List Int), d = l0.length - i → i ≤ l0.length → (0 < i → ((i - 1 : Nat) : Int) ∈ free) → (∀ y ∈ free, 0 ≤ y ∧ y < (i : Int)) → formGo l0 (l0.drop i) i free = none → formGo (hungL l0 k s) ((hungL l0 k s).drop i) i free = none
  | 0, i, free, hd, hi, hm, hr, h => by
    obtain rfl : i = l0.length := by omega
    have hpos := hS.pos
    rw [List.drop_length] at h
    have hl : free.length = 1 := by
      simp only [formGo] at h
      by_cases e : free.length = 1
      · exact e
      · simp [e] at h
    obtain ⟨z, rfl⟩ := List.length_eq_one_iff.1 hl
    have hz : ((l0.length - 1 : Nat) : Int) = z := by simpa using hm hpos
    have hs : stepB (hungL l0 k s) (rdp (hungL l0 k s) (l0.length : Int)) [z] = true := by
      rw [hung_last]
      have hr1 := hung_rd l0 k s (l0.length - 1) (by omega)
      simp only [stepB, hp, Bool.true_and, Bool.and_eq_true, decide_eq_true_eq]
      refine ⟨⟨by simp, by simp [hz]⟩, ?_⟩
      simp only [List.all_cons, List.all_nil, Bool.and_true]
      show kidFitsB k (rdp (hungL l0 k s) ((l0.length - 1 : Nat) : Int)).f0 = true
      rw [hr1]; exact hk
    rw [formGo_yes (hungL l0 k s) l0.length [z] (by rw [hung_len]; omega) hs]
    rw [List.drop_of_length_le (by rw [hung_len]; omega)]
    simp only [formGo]
    rw [if_pos]
    rw [Bool.and_eq_true]
    constructor
    · rw [show ((hungL l0 k s).length : Int) - 1 = (l0.length : Int) by rw [hung_len]; omega]
      show condB (rdp (hungL l0 k s) (l0.length : Int)).f0 = true
      rw [hung_last]; exact hc
    · show ((stepF (rdp (hungL l0 k s) (l0.length : Int)) l0.length [z]).length == 1) = true
      rw [hung_last]; simp [stepF]
  | d + 1, i, free, hd, hi, hm, hr, h => by
    have hlt : i < l0.length := by omega
    cases hs : stepB l0 (rdp l0 (i : Int)) free with
    | false => rw [formGo_no l0 i free hlt hs] at h; cases h
    | true =>
      rw [formGo_yes l0 i free hlt hs] at h
      have hri := hung_rd l0 k s i hlt
      have hs1 : stepB (hungL l0 k s) (rdp (hungL l0 k s) (i : Int)) free = true := by
        rw [hri]
        have hdrop : (rdp l0 (i : Int)).f3 = free.drop (free.length - (rdp l0 (i : Int)).f3.length) := by
          simp only [stepB, Bool.and_eq_true, beq_iff_eq] at hs; exact hs.1.2
        have hall : (rdp l0 (i : Int)).f3.all (fun x => kidFitsB (rdp l0 (i : Int)).f0 (rdp (hungL l0 k s) x).f0) = (rdp l0 (i : Int)).f3.all (fun x => kidFitsB (rdp l0 (i : Int)).f0 (rdp l0 x).f0) := by
          rw [Bool.eq_iff_iff, List.all_eq_true, List.all_eq_true]
          refine forall_congr' fun x => forall_congr' fun hx => ?_
          rw [hdrop] at hx
          have := hr x (List.mem_of_mem_drop hx)
          rw [hung_rdI l0 k s x this.1 (by omega)]
        unfold stepB at hs ⊢
        rw [hall]; exact hs
      have hri2 : rd_T45 (hungL l0 k s) (i : Int) = rd_T45 l0 (i : Int) := hri
      rw [formGo_yes (hungL l0 k s) i free (by rw [hung_len]; omega) hs1, hri2]
      exact hung_form_go l0 k s hS hp hk hc d (i + 1) _ (by omega) hlt (fun _ => by simp [stepF]) (stepF_mem hr) h
theorem hung_form (l0 : List Pt) (k : Int) (s : ByteArray) (h : formSpec l0 = none) (hn : l0.length < 1000) (hp : partFitsB ⟨k, s, 0, [((l0.length - 1 : Nat) : Int)]⟩ = true) (hk : kidFitsB k (rdp l0 ((l0.length - 1 : Nat) : Int)).f0 = true) (hc : condB k = true) :
    formSpec (hungL l0 k s) = none := by
  have hS := formSpec_shape l0 h
  have h0 := hS.pos
  have hg : formGo l0 (l0.drop 0) 0 [] = none := by
    unfold formSpec at h
    rwa [if_neg (by omega), if_neg (by omega)] at h
  unfold formSpec
  rw [hung_len, if_neg (by omega), if_neg (by omega)]
  exact hung_form_go l0 k s hS hp hk hc l0.length 0 [] rfl (Nat.zero_le _) (fun h => absurd h (by omega)) (fun y hy => by cases hy) hg
theorem hung_many (l0 : List Pt) (k : Int) (s : ByteArray) (hn : l0.length = 1000) : validSpec (hungL l0 k s) = some (130, 1000) := by
  have : formSpec (hungL l0 k s) = some (130, 1000) := by
    unfold formSpec
    rw [hung_len, if_neg (by omega), if_pos (by omega)]
  simp [validSpec, this]

/-! ### The nests -/
theorem foldl_at (l0 : List Pt) (p : Pt) (b : Int) : ∀ (ks : List Int) (out : List Int) (j : Nat), (∀ x ∈ ks, 0 ≤ x ∧ x < (out.length : Int)) → j < out.length →
    (ks.foldl (kidNest l0 p b) out).getD j 0 = if (j : Int) ∈ ks then b + (if brackB p.f0 (rdp l0 (j : Int)).f0 then 1 else 0) else out.getD j 0
  | [], out, j, hk, hj => by simp
  | x :: ks, out, j, hk, hj => by
    rw [List.foldl_cons, foldl_at l0 p b ks _ j (fun y hy => by rw [kidNest_len]; exact hk y (List.mem_cons_of_mem _ hy)) (by rw [kidNest_len]; exact hj)]
    by_cases hm : (j : Int) ∈ ks
    · rw [if_pos hm, if_pos (List.mem_cons_of_mem _ hm)]
    · rw [if_neg hm]
      obtain ⟨hx0, hx1⟩ := hk x (by simp)
      by_cases e : (j : Int) = x
      · subst e
        rw [if_pos (by simp)]
        simp [kidNest, List.getD_eq_getElem?_getD, List.getElem?_set, hj]
      · rw [if_neg (by simp [e, hm])]
        have : x.toNat ≠ j := by omega
        simp [kidNest, List.getD_eq_getElem?_getD, List.getElem?_set, this]
/-- Place j has been told its nest when the parts from i on are done. -/
def Told (l0 : List Pt) (i j : Nat) : Prop := j = l0.length - 1 ∨ ∃ q : Nat, i ≤ q ∧ q < l0.length ∧ (j : Int) ∈ (rdp l0 (q : Int)).f3
theorem hung_nests_go (l0 : List Pt) (k : Int) (s : ByteArray) (m : Int) (hS : Shape l0) (hkid : ∀ j, j < l0.length → j = l0.length - 1 ∨ ∃ q : Nat, j < q ∧ q < l0.length ∧ (j : Int) ∈ (rdp l0 (q : Int)).f3) :
    ∀ (i : Nat) (out out1 : List Int), i ≤ l0.length → out.length = l0.length → out1.length = l0.length + 1 → out1.getD l0.length 0 = 0 → (∀ j, j < l0.length → Told l0 i j → out1.getD j 0 = out.getD j 0 + m) →
      nestsGo (hungL l0 k s) i out1 = (nestsGo l0 i out).map (· + m) ++ [0]
  | 0, out, out1, hi, ho, ho1, hz, h => by
    show out1 = out.map (· + m) ++ [0]
    apply List.ext_getElem
    · simp [ho, ho1]
    · intro j h1 h2
      by_cases hj : j < l0.length
      · have ht : Told l0 0 j := by
          rcases hkid j hj with e | ⟨q, h3, h4, h5⟩
          · exact .inl e
          · exact .inr ⟨q, Nat.zero_le _, h4, h5⟩
        have := h j hj ht
        simp only [List.getD_eq_getElem?_getD, List.getElem?_eq_getElem h1, List.getElem?_eq_getElem (show j < out.length by omega), Option.getD_some] at this
        rw [this, List.getElem_append_left (by simp; omega)]
        simp
      · obtain rfl : j = l0.length := by omega
        simp only [List.getD_eq_getElem?_getD, List.getElem?_eq_getElem h1, Option.getD_some] at hz
        rw [hz, List.getElem_append_right (by simp; omega)]
        simp
  | i + 1, out, out1, hi, ho, ho1, hz, h => by
    have hlt : i < l0.length := by omega
    have hP := hS.parts i hlt
    have hti : Told l0 (i + 1) i := by
      rcases hkid i hlt with e | ⟨q, h3, h4, h5⟩
      · exact .inl e
      · exact .inr ⟨q, by omega, h4, h5⟩
    have hri := hung_rd l0 k s i hlt
    have hoi := h i hlt hti
    have hks : ∀ x ∈ (rdp l0 (i : Int)).f3, 0 ≤ x ∧ x < (i : Int) := hP.kids
    simp only [nestsGo]
    show nestsGo (hungL l0 k s) i ((rdp (hungL l0 k s) (i : Int)).f3.foldl (kidNest (hungL l0 k s) (rdp (hungL l0 k s) (i : Int)) (out1.getD i 0 + roundB (rdp (hungL l0 k s) (i : Int)).f0)) out1) = _
    rw [hri]
    refine hung_nests_go l0 k s m hS hkid i _ _ (by omega) (by rw [foldl_len]; exact ho) (by rw [foldl_len]; exact ho1) ?_ ?_
    · rw [foldl_at _ _ _ _ _ _ (fun x hx => by have := hks x hx; omega) (by omega), if_neg (fun hx => by have := hks _ hx; omega)]
      exact hz
    · intro j hj ht
      rw [foldl_at _ _ _ _ _ _ (fun x hx => by have := hks x hx; omega) (by omega), foldl_at _ _ _ _ _ _ (fun x hx => by have := hks x hx; omega) (by omega)]
      by_cases hm : (j : Int) ∈ (rdp l0 (i : Int)).f3
      · rw [if_pos hm, if_pos hm, hoi, hung_rd l0 k s j hj]
        generalize (if brackB (rdp l0 (i : Int)).f0 (rdp l0 (j : Int)).f0 = true then (1 : Int) else 0) = z
        show out.getD i 0 + m + roundB (rdp l0 (i : Int)).f0 + z = out.getD i 0 + roundB (rdp l0 (i : Int)).f0 + z + m
        generalize out.getD i 0 = a
        generalize roundB (rdp l0 (i : Int)).f0 = b
        omega
      · rw [if_neg hm, if_neg hm]
        refine h j hj ?_
        rcases ht with e | ⟨q, h3, h4, h5⟩
        · exact .inl e
        · refine .inr ⟨q, ?_, h4, h5⟩
          rcases Nat.lt_or_ge i q with h6 | h6
          · exact h6
          · obtain rfl : q = i := by omega
            exact absurd h5 hm
theorem hung_nests (l0 : List Pt) (k : Int) (s : ByteArray) (h : formSpec l0 = none) :
    nestsSpec (hungL l0 k s) = (nestsSpec l0).map (· + (roundB k + (if brackB k (rdp l0 ((l0.length - 1 : Nat) : Int)).f0 then 1 else 0))) ++ [0] := by
  have hS := formSpec_shape l0 h
  have h0 := hS.pos
  have hg : formGo l0 (l0.drop 0) 0 [] = none := by
    unfold formSpec at h
    have h1 := hS.few
    rwa [if_neg (by omega), if_neg (by omega)] at h
  have hkid := fun j hj => formGo_kid l0 l0.length 0 [] rfl (Nat.zero_le _) hg j (Nat.zero_le _) hj
  unfold nestsSpec
  rw [hung_len]
  simp only [nestsGo]
  show nestsGo (hungL l0 k s) l0.length ((rdp (hungL l0 k s) (l0.length : Int)).f3.foldl (kidNest (hungL l0 k s) (rdp (hungL l0 k s) (l0.length : Int)) ((List.replicate (l0.length + 1) 0).getD l0.length 0 + roundB (rdp (hungL l0 k s) (l0.length : Int)).f0)) (List.replicate (l0.length + 1) 0)) = _
  rw [hung_last]
  refine hung_nests_go l0 k s _ hS hkid l0.length _ _ (Nat.le_refl _) (by simp) (by rw [foldl_len]; simp) ?_ ?_
  · rw [foldl_at _ _ _ _ _ _ (by intro x hx; simp at hx; subst hx; simp; omega) (by simp), if_neg (by simp; omega)]
    simp
  · intro j hj ht
    obtain rfl : j = l0.length - 1 := by
      rcases ht with e | ⟨q, h3, h4, h5⟩
      · exact e
      · omega
    rw [foldl_at _ _ _ _ _ _ (by intro x hx; simp at hx; subst hx; simp; omega) (by simp; omega), if_pos (by simp), hung_rd l0 k s _ hj]
    have e1 : (List.replicate (l0.length + 1) (0 : Int)).getD l0.length 0 = 0 := by simp [List.getD_eq_getElem?_getD, List.getElem?_replicate]
    have e2 : (List.replicate l0.length (0 : Int)).getD (l0.length - 1) 0 = 0 := by simp [List.getD_eq_getElem?_getD, List.getElem?_replicate]; split <;> rfl
    rw [e1, e2]
    simp only [Int.zero_add]

/-! ### Valid, the nest -/
theorem deep_none : ∀ (ns : List Int) (i : Nat), deepGo ns i = none ↔ ∀ x ∈ ns, x ≤ 32
  | [], i => by simp [deepGo]
  | n :: ns, i => by
    simp only [deepGo]
    by_cases h : 32 < n
    · rw [if_pos h]
      exact ⟨fun e => (by cases e), fun hx => (by have := hx n (by simp); omega)⟩
    · rw [if_neg h, deep_none ns (i + 1)]
      constructor
      · intro hx x hm
        rcases List.mem_cons.1 hm with rfl | hm
        · omega
        · exact hx x hm
      · exact fun hx x hm => hx x (List.mem_cons_of_mem _ hm)
theorem most_of : ∀ (ns : List Int) (a : Int), a ≤ mostGo ns a ∧ (∀ x ∈ ns, x ≤ mostGo ns a) ∧ (mostGo ns a = a ∨ mostGo ns a ∈ ns)
  | [], a => by simp [mostGo]
  | n :: ns, a => by
    obtain ⟨h1, h2, h3⟩ := most_of ns (max a n)
    simp only [mostGo]
    refine ⟨by omega, ?_, ?_⟩
    · intro x hm
      rcases List.mem_cons.1 hm with rfl | hm
      · omega
      · exact h2 x hm
    · rcases h3 with h3 | h3
      · rcases Int.le_total a n with h | h
        · exact .inr (by rw [h3, Int.max_eq_right h]; exact List.mem_cons_self)
        · exact .inl (by rw [h3]; exact Int.max_eq_left h)
      · exact .inr (List.mem_cons_of_mem _ h3)
theorem nests_root (l0 : List Pt) (hS : Shape l0) : ∀ (i : Nat) (out : List Int), i ≤ l0.length → out.length = l0.length → out.getD (l0.length - 1) 0 = 0 → (nestsGo l0 i out).getD (l0.length - 1) 0 = 0
  | 0, out, hi, ho, h => h
  | i + 1, out, hi, ho, h => by
    have hlt : i < l0.length := by omega
    have hks : ∀ x ∈ (rdp l0 (i : Int)).f3, 0 ≤ x ∧ x < (i : Int) := (hS.parts i hlt).kids
    simp only [nestsGo]
    refine nests_root l0 hS i _ (by omega) (by rw [foldl_len]; exact ho) ?_
    rw [foldl_at _ _ _ _ _ _ (fun x hx => by have := hks x hx; omega) (by omega), if_neg (fun hx => by have := hks _ hx; omega)]
    exact h
/-- How much more stands round each part. -/
def moreB (l0 : List Pt) (k : Int) : Int := roundB k + (if brackB k (rdp l0 ((l0.length - 1 : Nat) : Int)).f0 then 1 else 0)
theorem nest_facts (l0 : List Pt) (h : validSpec l0 = none) : formSpec l0 = none ∧ 0 ≤ nestOf l0 ∧ nestOf l0 ≤ 32 ∧ (∀ x ∈ nestsSpec l0, x ≤ nestOf l0) ∧ nestOf l0 ∈ nestsSpec l0 := by
  have hf : formSpec l0 = none := by
    unfold validSpec at h
    cases hf : formSpec l0 with
    | some f => rw [hf] at h; cases h
    | none => rfl
  have hS := formSpec_shape l0 hf
  have h0 := hS.pos
  have hv : deepGo (nestsSpec l0) 0 = none := by simpa [validSpec, hf] using h
  have h32 := (deep_none _ _).1 hv
  have hn : nestOf l0 = mostGo (nestsSpec l0) 0 := by simp [nestOf, h, nestMost]
  obtain ⟨m1, m2, m3⟩ := most_of (nestsSpec l0) 0
  have hlen := (nestsSpec_within l0 hS.few).2
  have hroot : (0 : Int) ∈ nestsSpec l0 := by
    have := nests_root l0 hS l0.length (List.replicate l0.length 0) (Nat.le_refl _) (by simp) (by simp [List.getD_eq_getElem?_getD, List.getElem?_replicate]; split <;> rfl)
    have h2 : (nestsSpec l0).getD (l0.length - 1) 0 = 0 := this
    rw [List.getD_eq_getElem?_getD, List.getElem?_eq_getElem (by omega)] at h2
    simp only [Option.getD_some] at h2
    rw [← h2]
    exact List.getElem_mem _
  have hmem : mostGo (nestsSpec l0) 0 ∈ nestsSpec l0 := by
    rcases m3 with m3 | m3
    · rw [m3]; exact hroot
    · exact m3
  rw [hn]
  exact ⟨hf, m1, h32 _ hmem, m2, hmem⟩
/-- What hangs a valid tree up. -/
structure Hangs (l0 : List Pt) (k : Int) (s : ByteArray) : Prop where
  fit : partFitsB ⟨k, s, 0, [((l0.length - 1 : Nat) : Int)]⟩ = true
  kid : kidFitsB k (rdp l0 ((l0.length - 1 : Nat) : Int)).f0 = true
  cond : condB k = true
theorem hung_valid (l0 : List Pt) (k : Int) (s : ByteArray) (h : validSpec l0 = none) (hn : l0.length < 1000) (hh : Hangs l0 k s) :
    (nestOf l0 + moreB l0 k ≤ 32 → validSpec (hungL l0 k s) = none ∧ nestOf (hungL l0 k s) = nestOf l0 + moreB l0 k) ∧ (32 < nestOf l0 + moreB l0 k → validSpec (hungL l0 k s) ≠ none) := by
  obtain ⟨hf, n0, n32, nle, nmem⟩ := nest_facts l0 h
  have hf1 := hung_form l0 k s hf hn hh.fit hh.kid hh.cond
  have hns : nestsSpec (hungL l0 k s) = (nestsSpec l0).map (· + moreB l0 k) ++ [0] := hung_nests l0 k s hf
  have hv : validSpec (hungL l0 k s) = deepGo (nestsSpec (hungL l0 k s)) 0 := by simp [validSpec, hf1]
  have m0 : 0 ≤ moreB l0 k := by have := roundB_le k; unfold moreB; split <;> omega
  constructor
  · intro hle
    have hnone : validSpec (hungL l0 k s) = none := by
      rw [hv, hns]
      refine (deep_none _ _).2 fun x hx => ?_
      rcases List.mem_append.1 hx with hx | hx
      · obtain ⟨y, hy, rfl⟩ := List.mem_map.1 hx
        have := nle y hy
        show y + _ ≤ 32; omega
      · simp at hx; omega
    refine ⟨hnone, ?_⟩
    have hno : nestOf (hungL l0 k s) = mostGo (nestsSpec (hungL l0 k s)) 0 := by simp [nestOf, hnone, nestMost]
    obtain ⟨m1, m2, m3⟩ := most_of (nestsSpec (hungL l0 k s)) 0
    rw [hno]
    have ha := m2 (nestOf l0 + moreB l0 k) (by rw [hns]; exact List.mem_append_left _ (List.mem_map.2 ⟨_, nmem, rfl⟩))
    have hb : mostGo (nestsSpec (hungL l0 k s)) 0 ≤ nestOf l0 + moreB l0 k := by
      rcases m3 with m3 | m3
      · omega
      · rw [hns] at m3
        rcases List.mem_append.1 m3 with hx | hx
        · obtain ⟨y, hy, e⟩ := List.mem_map.1 hx
          have := nle y hy
          rw [← hns] at e
          have e : y + moreB l0 k = mostGo (nestsSpec (hungL l0 k s)) 0 := e
          omega
        · simp at hx
          rw [← hns] at hx
          omega
    omega
  · intro hgt hnone
    rw [hv, hns] at hnone
    have := (deep_none _ _).1 hnone (nestOf l0 + moreB l0 k) (List.mem_append_left _ (List.mem_map.2 ⟨_, nmem, rfl⟩))
    omega

/-! ### The text -/
theorem oneT_tree (l0 l1 : List Pt) (p : Pt) (f g : Int → Bs) (x : Int) (h : f x = g x) (hr : rdp l1 x = rdp l0 x) : oneT l1 p f x = oneT l0 p g x := by
  unfold oneT
  rw [show rd_T45 l1 x = rd_T45 l0 x from hr, h]
theorem joinT_tree (l0 l1 : List Pt) (p : Pt) (sep : Bs) (f g : Int → Bs) (ks : List Int) (h : ∀ x ∈ ks, f x = g x) (hr : ∀ x ∈ ks, rdp l1 x = rdp l0 x) : joinT l1 p sep f ks = joinT l0 p sep g ks := by
  cases ks with
  | nil => rfl
  | cons a ks =>
    simp only [joinT]
    rw [oneT_tree l0 l1 p f g a (h a (by simp)) (hr a (by simp))]
    congr 1
    induction ks with
    | nil => rfl
    | cons b ks ih =>
      simp only [List.flatMap_cons]
      rw [oneT_tree l0 l1 p f g b (h b (by simp)) (hr b (by simp)), ih (fun x hx => h x (by simp at hx ⊢; rcases hx with e | e <;> simp [e])) (fun x hx => hr x (by simp at hx ⊢; rcases hx with e | e <;> simp [e]))]
theorem partT_tree (l0 l1 : List Pt) (p : Pt) (f g : Int → Bs) (h : ∀ x ∈ p.f3, f x = g x) (hr : ∀ x ∈ p.f3, rdp l1 x = rdp l0 x) : partT l1 p f = partT l0 p g := by
  have hj := fun sep => joinT_tree l0 l1 p sep f g p.f3 h hr
  simp only [partT, termT, selT, hj]
theorem hung_txt (l0 : List Pt) (k : Int) (s : ByteArray) (hS : Shape l0) : ∀ (n j : Nat), j < l0.length → rend (hungL l0 k s) n (j : Int) = rend l0 n (j : Int)
  | 0, j, hj => rfl
  | n + 1, j, hj => by
    show partT (hungL l0 k s) (rdp (hungL l0 k s) (j : Int)) (rend (hungL l0 k s) n) = partT l0 (rdp l0 (j : Int)) (rend l0 n)
    rw [hung_rd l0 k s j hj]
    refine partT_tree l0 (hungL l0 k s) _ _ _ (fun x hx => ?_) (fun x hx => ?_)
    · have := (hS.parts j hj).kids x hx
      have h2 := hung_txt l0 k s hS n x.toNat (by omega)
      rwa [show ((x.toNat : Nat) : Int) = x by omega] at h2
    · have := (hS.parts j hj).kids x hx
      exact hung_rdI l0 k s x this.1 (by omega)
theorem hung_text (l0 : List Pt) (k : Int) (s : ByteArray) (hS : Shape l0) (hS1 : Shape (hungL l0 k s)) :
    txt (hungL l0 k s) (l0.length : Int) = partT (hungL l0 k s) ⟨k, s, 0, [((l0.length - 1 : Nat) : Int)]⟩ (txt l0) := by
  have h0 := hS.pos
  rw [txt_eq (hungL l0 k s) hS1 l0.length (by rw [hung_len]; omega)]
  show partT _ (rdp (hungL l0 k s) (l0.length : Int)) _ = _
  rw [hung_last]
  refine partT_congr _ _ _ _ (fun x hx => ?_)
  simp at hx
  subst hx
  show rend (hungL l0 k s) (((l0.length - 1 : Nat) : Int).toNat + 1) ((l0.length - 1 : Nat) : Int) = _
  exact hung_txt l0 k s hS _ (l0.length - 1) (by omega)
end Go.Proofs.YteeojceloljcbaaDoor.P
