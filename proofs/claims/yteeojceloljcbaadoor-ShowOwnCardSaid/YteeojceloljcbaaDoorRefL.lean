/-
  The document's shape is the program's shape: the plain law.
-/
import Derived.Test.YteeojceloljcbaaDoorNestsL
set_option linter.unusedVariables false
set_option linter.unusedSimpArgs false
namespace Go.Proofs.YteeojceloljcbaaDoor.P
open Go.RowKit Go.Proofs.YteeojceloljcbaaDoorW.PrintWords Go.Proofs.YteeojceloljcbaaDoorW.PrintLast
theorem ref_condition_eq (k : Int) : berthref13_Condition.f k = some (condB k) := isCondition_eq k
theorem ref_term_eq (k : Int) : berthref13_term.f k = some (termB k) := isTerm_eq k
theorem ref_kids_eq (k n : Int) : berthref13_kids.f 4 k n = some (kidCountB k n) := by
  by_cases h3 : k = 3
  · subst h3; simp [berthref13_kids.f, berthref13_kids.j0, berthref13_kids.j1, berthref13_kids.j2, kidCountB]
  by_cases h4 : k = 4
  · subst h4; simp [berthref13_kids.f, berthref13_kids.j0, berthref13_kids.j1, berthref13_kids.j2, kidCountB]
  by_cases h5 : k = 5
  · subst h5; simp [berthref13_kids.f, berthref13_kids.j0, berthref13_kids.j1, berthref13_kids.j2, kidCountB]
  by_cases h6 : k = 6
  · subst h6; simp [berthref13_kids.f, berthref13_kids.j0, berthref13_kids.j1, berthref13_kids.j2, kidCountB]
  by_cases h7 : k = 7
  · subst h7; simp [berthref13_kids.f, berthref13_kids.j0, berthref13_kids.j1, berthref13_kids.j2, kidCountB]
  by_cases h8 : k = 8
  · subst h8; simp [berthref13_kids.f, berthref13_kids.j0, berthref13_kids.j1, berthref13_kids.j2, kidCountB]
  by_cases h9 : k = 9
  · subst h9; simp [berthref13_kids.f, berthref13_kids.j0, berthref13_kids.j1, berthref13_kids.j2, kidCountB]
  by_cases h13 : k = 13
  · subst h13; simp [berthref13_kids.f, berthref13_kids.j0, berthref13_kids.j1, berthref13_kids.j2, kidCountB]
  by_cases h19 : k = 19
  · subst h19; simp [berthref13_kids.f, berthref13_kids.j0, berthref13_kids.j1, berthref13_kids.j2, kidCountB]
  by_cases h20 : k = 20
  · subst h20; simp [berthref13_kids.f, berthref13_kids.j0, berthref13_kids.j1, berthref13_kids.j2, kidCountB]
  simp [berthref13_kids.f, berthref13_kids.j0, berthref13_kids.j1, berthref13_kids.j2, kidCountB, h3, h4, h5, h6, h7, h8, h9, h13, h19, h20]
def holdsB (p : Pt) : Bool := (decide (p.f1.size ≤ 127) && (p.f1.size == 0 || usesTextB p.f0)) && numFitsB p.f0 p.f2
theorem size_nil (s : ByteArray) : s.toList = ([] : List UInt8) ↔ s.size = 0 := by
  rw [ByteArray.toList_eq]
  obtain ⟨a⟩ := s
  show a.toList = [] ↔ a.size = 0
  simp
theorem kind_cases {k : Int} (h1 : 1 ≤ k) (h2 : k ≤ 20) : k = 1 ∨ k = 2 ∨ k = 3 ∨ k = 4 ∨ k = 5 ∨ k = 6 ∨ k = 7 ∨ k = 8 ∨ k = 9 ∨ k = 10 ∨ k = 11 ∨ k = 12 ∨ k = 13 ∨ k = 14 ∨ k = 15 ∨ k = 16 ∨ k = 17 ∨ k = 18 ∨ k = 19 ∨ k = 20 := by omega
theorem ite_and_some (P Q : Prop) [Decidable P] [Decidable Q] : (if P then some (decide Q) else some false) = some (decide P && decide Q) := by by_cases h : P <;> simp [h]
theorem ite_or_some (n : Int) : (if n = 0 then some true else some (n == 1)) = some (decide (n = 0) || decide (n = 1)) := by
  by_cases h : n = 0
  · simp [h]
  · simp only [h, if_false, decide_false, Bool.false_or]; rfl
theorem ref_holds_eq (p : Pt) (h1 : 1 ≤ p.f0) (h2 : p.f0 ≤ 20) : berthref13_holds.f 3 p.f0 p.f1 p.f2 p.f3 = some (holdsB p) := by
  obtain ⟨k, s, n, l⟩ := p
  simp only at h1 h2
  have hle : s.size = 0 → s.size ≤ 127 := by omega
  have hc : ((s.size : Int) ≤ 127) = (s.size ≤ 127) := by rw [eq_iff_iff]; omega
  rcases kind_cases h1 h2 with rfl | rfl | rfl | rfl | rfl | rfl | rfl | rfl | rfl | rfl | rfl | rfl | rfl | rfl | rfl | rfl | rfl | rfl | rfl | rfl <;>
    (simp only [berthref13_holds.f, berthref13_holds.j0, berthref13_holds.j1, holdsB, usesTextB, numFitsB, size_nil, hc]
     by_cases hs : s.size = 0 <;> by_cases hs2 : s.size ≤ 127 <;> simp [hs, hs2] <;>
       first | omega | exact ite_and_some _ _ | exact ite_or_some _)
theorem ref_brackets_eq (a b : Int) : berthref13_brackets.f 2 a b = some (brackB a b) := by
  by_cases h3 : a = 3
  · subst h3; by_cases hb : b = 4 <;> simp [berthref13_brackets.f, berthref13_brackets.j0, brackB, hb]
  by_cases h4 : a = 4
  · subst h4; by_cases hb : b = 4 <;> simp [berthref13_brackets.f, berthref13_brackets.j0, brackB, hb]
  by_cases h5 : a = 5
  · subst h5; simp [berthref13_brackets.f, berthref13_brackets.j0, brackB]
  simp [berthref13_brackets.f, berthref13_brackets.j0, brackB, h3, h4, h5]
def classB (a b : Int) : Bool := if a = 6 ∨ a = 7 ∨ a = 19 then termB b else if a = 13 then (b == 11 || b == 12) else condB b
theorem ref_class_eq (a b : Int) : berthref13_class.f 2 a b = some (classB a b) := by
  by_cases h3 : a = 6
  · subst h3; simp [berthref13_class.f, berthref13_class.j0, classB, ref_term_eq]
  by_cases h4 : a = 7
  · subst h4; simp [berthref13_class.f, berthref13_class.j0, classB, ref_term_eq]
  by_cases h5 : a = 19
  · subst h5; simp [berthref13_class.f, berthref13_class.j0, classB, ref_term_eq]
  by_cases h13 : a = 13
  · subst h13; by_cases hb : b = 11 <;> simp [berthref13_class.f, berthref13_class.j0, classB, hb]
  simp [berthref13_class.f, berthref13_class.j0, classB, ref_condition_eq, h3, h4, h5, h13]
theorem class_kid (p : Pt) (h : partFitsB p = true) (hk : p.f3.length ≠ 0) (b : Int) : classB p.f0 b = kidFitsB p.f0 b := by
  obtain ⟨k, s, n, l⟩ := p
  simp only [partFitsB, Bool.and_eq_true, decide_eq_true_eq] at h
  obtain ⟨⟨⟨h1, h2⟩, -⟩, -, h3⟩ := h
  simp only at hk
  rcases kind_cases h1 h2 with rfl | rfl | rfl | rfl | rfl | rfl | rfl | rfl | rfl | rfl | rfl | rfl | rfl | rfl | rfl | rfl | rfl | rfl | rfl | rfl <;>
    first | rfl | (exfalso; simp [kidCountB] at h3; omega) | (exfalso; simp [kidCountB] at h3; simp [h3] at hk) | simp [classB, kidFitsB]
theorem partFits_split (p : Pt) : partFitsB p = (decide (1 ≤ p.f0 ∧ p.f0 ≤ 20) && (holdsB p && kidCountB p.f0 (p.f3.length : Int))) := by
  simp only [partFitsB, holdsB, Bool.and_assoc]

theorem ev_of_eq {α : Type} {g : Nat → Option α} {r : α} (hg : ∀ k, LeO (g k) (g (k + 1))) (k : Nat) (h : g k = some r) : Ev g r := Ev.of hg h
theorem ref_kids_ev (a b : Int) : Ev (fun k => berthref13_kids.f k a b) (kidCountB a b) := Ev.of (fun k => berthref13_kids.mono a b k) (ref_kids_eq a b)
theorem ref_holds_ev (p : Pt) (h1 : 1 ≤ p.f0) (h2 : p.f0 ≤ 20) : Ev (fun k => berthref13_holds.f k p.f0 p.f1 p.f2 p.f3) (holdsB p) := Ev.of (fun k => berthref13_holds.mono _ _ _ _ k) (ref_holds_eq p h1 h2)
theorem ref_class_ev (a b : Int) : Ev (fun k => berthref13_class.f k a b) (classB a b) := Ev.of (fun k => berthref13_class.mono a b k) (ref_class_eq a b)
theorem ref_brackets_ev (a b : Int) : Ev (fun k => berthref13_brackets.f k a b) (brackB a b) := Ev.of (fun k => berthref13_brackets.mono a b k) (ref_brackets_eq a b)


theorem ref_part_go (l0 : List Pt) (p : Pt) (free : List Int) (hn : l0.length ≤ 1000) (hf : ∀ y ∈ free, 0 ≤ y ∧ y < (l0.length : Int)) (hl : free.length ≤ 1000) (hfit : partFitsB p = true) (hle : p.f3.length ≤ free.length) :
    ∀ (d j : Nat), d = p.f3.length - j → j ≤ p.f3.length → kidsTo l0 p free j →
      Ev (fun k => berthref13_part.l0 k free p.f0 ((free.length : Int) - (p.f3.length : Int)) (j : Int) l0 p.f0 p.f1 p.f2 p.f3) (stepB l0 p free)
  | 0, j, hd, hj, hk => by
    obtain rfl : j = p.f3.length := by omega
    rw [stepB_all l0 p free hfit hle hk]
    refine Ev.step (f := fun _ => some true) (fun k => ?_) (Ev.now _)
    simp only [berthref13_part.l0, if_neg (Int.lt_irrefl _)]
  | d + 1, j, hd, hj, hk => by
    have hlt : j < p.f3.length := by omega
    have hne : p.f3.length ≠ 0 := Nat.ne_of_gt (Nat.lt_of_le_of_lt (Nat.zero_le _) hlt)
    have hd' : d = p.f3.length - (j + 1) := by omega
    obtain ⟨m, hm⟩ : ∃ m, m = free.length - p.f3.length + j := ⟨_, rfl⟩
    obtain ⟨x, hx⟩ : ∃ x, x = p.f3.getD j 0 := ⟨_, rfl⟩
    have hr : rd p.f3 (j : Int) = x := by rw [hx]; simp [rd]
    have hw : wrap64 ((free.length : Int) - (p.f3.length : Int) + (j : Int)) = (m : Int) := by unfold wrap64; omega
    have hrf : rd free (m : Int) = free.getD m 0 := by simp [rd]
    have h1 : (j : Int) < (p.f3.length : Int) := by omega
    have h2 : (0 : Int) ≤ (j : Int) := by omega
    have h3 : (0 : Int) ≤ (m : Int) := by omega
    have h4 : (m : Int) < (free.length : Int) := by omega
    have hw1 : wrap64 ((j : Int) + 1) = ((j + 1 : Nat) : Int) := by unfold wrap64; omega
    by_cases he : x = free.getD m 0
    · have hmem : x ∈ free := by
        rw [he, List.getD_eq_getElem?_getD, List.getElem?_eq_getElem (by omega)]
        exact List.getElem_mem _
      obtain ⟨h5, h6⟩ := hf _ hmem
      refine Ev.step (f := fun k => (berthref13_class.f k p.f0 (rdp l0 x).f0).bind fun t => if t = true then berthref13_part.l0 k free p.f0 ((free.length : Int) - (p.f3.length : Int)) ((j + 1 : Nat) : Int) l0 p.f0 p.f1 p.f2 p.f3 else some false) (fun k => ?_) ?_
      · simp only [berthref13_part.l0, hr, hw, hrf, if_pos h1, if_pos h2, if_pos h3, if_pos h4, ← he, if_pos h5, if_pos h6, hw1, if_true]
      · refine Ev.bind (ref_class_ev _ _) ?_
        rw [class_kid p hfit hne]
        cases hc : kidFitsB p.f0 (rdp l0 x).f0 with
        | true =>
          simp only [if_true]
          refine ref_part_go l0 p free hn hf hl hfit hle d (j + 1) hd' hlt ?_
          intro i hi
          by_cases e : i = j
          · subst e; rw [← hx, ← hm]; exact ⟨he, hc⟩
          · exact hk i (Nat.lt_of_le_of_ne (Nat.le_of_lt_succ hi) e)
        | false =>
          rw [stepB_bad l0 p free j hlt hle (by rw [← hx, ← hm]; intro hh; rw [show kidFitsB p.f0 (rd_T45 l0 x).f0 = false from hc] at hh; exact Bool.noConfusion hh.2)]
          exact Ev.congr (f := fun _ => some false) (fun k => by simp) (Ev.now _)
    · rw [stepB_bad l0 p free j hlt hle (by rw [← hx, ← hm]; exact fun hh => he hh.1)]
      refine Ev.step (f := fun _ => some false) (fun k => ?_) (Ev.now _)
      simp only [berthref13_part.l0, hr, hw, hrf, if_pos h1, if_pos h2, if_pos h3, if_pos h4, if_neg he]

theorem stepB_unfit (l0 : List Pt) (p : Pt) (free : List Int) (h : partFitsB p = false) : stepB l0 p free = false := by simp [stepB, h]
theorem stepB_many (l0 : List Pt) (p : Pt) (free : List Int) (h : free.length < p.f3.length) : stepB l0 p free = false := by
  simp only [stepB, show decide (p.f3.length ≤ free.length) = false by simp; omega, Bool.and_false, Bool.false_and]
theorem ref_part_ev (l0 : List Pt) (i : Nat) (free : List Int) (hi : i < l0.length) (hn : l0.length ≤ 1000) (hf : ∀ y ∈ free, 0 ≤ y ∧ y < (l0.length : Int)) (hl : free.length ≤ 1000) :
    Ev (fun k => berthref13_part.f k l0 (i : Int) free) (stepB l0 (rd_T45 l0 (i : Int)) free) := by
  generalize hp : rd_T45 l0 (i : Int) = p
  have h1 : (0 : Int) ≤ (i : Int) := by omega
  have h2 : (i : Int) < (l0.length : Int) := by omega
  simp only [berthref13_part.f, if_pos h1, if_pos h2, hp]
  refine Ev.bind (ref_kids_ev _ _) ?_
  have bad : partFitsB p = false → Ev (fun k => berthref13_part.j0 k free p.f0 true l0 p.f0 p.f1 p.f2 p.f3) (stepB l0 p free) := fun h => by
    rw [stepB_unfit l0 p free h]
    exact Ev.step (f := fun _ => some false) (fun k => by simp [berthref13_part.j0]) (Ev.now _)
  cases hk : kidCountB p.f0 (p.f3.length : Int) with
  | false =>
    simp only [Bool.false_eq_true, if_false]
    exact bad (by rw [partFits_split, hk]; simp)
  | true =>
    simp only [if_true]
    by_cases h3 : p.f0 < 1
    · simp only [if_pos h3]
      exact bad (by rw [partFits_split]; simp [show ¬ (1 ≤ p.f0) by omega])
    · simp only [if_neg h3]
      by_cases h4 : p.f0 > 20
      · simp only [if_pos h4]
        exact bad (by rw [partFits_split]; simp [show ¬ (p.f0 ≤ 20) by omega])
      · simp only [if_neg h4]
        by_cases h5 : (p.f3.length : Int) > (free.length : Int)
        · rw [stepB_many l0 p free (by omega)]
          exact Ev.step (f := fun _ => some false) (fun k => by simp [berthref13_part.j0, h5]) (Ev.now _)
        · refine Ev.step (f := fun k => (berthref13_holds.f k p.f0 p.f1 p.f2 p.f3).bind fun t => if t = true then berthref13_part.l0 k free p.f0 ((free.length : Int) - (p.f3.length : Int)) 0 l0 p.f0 p.f1 p.f2 p.f3 else some false) (fun k => ?_) ?_
          · have hw : wrap64 ((free.length : Int) - (p.f3.length : Int)) = (free.length : Int) - (p.f3.length : Int) := by unfold wrap64; omega
            simp only [berthref13_part.j0, h5, decide_false, Bool.false_eq_true, if_false, hw]
          · refine Ev.bind (ref_holds_ev p (by omega) (by omega)) ?_
            have hfb : partFitsB p = holdsB p := by rw [partFits_split, hk]; simp [show 1 ≤ p.f0 by omega, show p.f0 ≤ 20 by omega]
            cases hh : holdsB p with
            | false =>
              rw [stepB_unfit l0 p free (by rw [hfb, hh])]
              exact Ev.congr (f := fun _ => some false) (fun k => by simp) (Ev.now _)
            | true =>
              simp only [if_true]
              exact ref_part_go l0 p free hn hf hl (by rw [hfb, hh]) (by omega) p.f3.length 0 (by omega) (by omega) (fun i hi => by omega)
/-- The fault as code and place. -/
def enc (o : Option (Int × Int)) : Int × Int := o.getD (0, 0)
theorem rd_len (l0 : List Pt) (i : Nat) : rd_T45 l0 (i : Int) = l0.getD i z45 := by simp [rd_T45]
theorem ref_form_go (l0 : List Pt) (hn : l0.length ≤ 1000) (h0 : 0 < l0.length) : ∀ (d i : Nat) (free : List Int), d = l0.length - i → i ≤ l0.length → (∀ y ∈ free, 0 ≤ y ∧ y < (i : Int)) → free.length ≤ i → (0 < i → 0 < free.length) →
    Ev (fun k => berthref13_form.l0 k free (i : Int) l0) (enc (formGo l0 (l0.drop i) i free))
  | 0, i, free, hd, hi, hf, hl, hpos => by
    obtain rfl : i = l0.length := by omega
    have hw : wrap64 ((l0.length : Int) - 1) = (l0.length : Int) - 1 := by unfold wrap64; omega
    rw [List.drop_length]
    refine Ev.step (f := fun _ => some (enc (formGo l0 [] l0.length free))) (fun k => ?_) (Ev.now _)
    have hp := hpos h0
    simp only [berthref13_form.l0, if_neg (Int.lt_irrefl _), hw, if_pos (show (0 : Int) ≤ (l0.length : Int) - 1 by omega), if_pos (show (l0.length : Int) - 1 < (l0.length : Int) by omega), ref_condition_eq, Option.bind_some, formGo]
    cases hc : condB (rd_T45 l0 ((l0.length : Int) - 1)).f0 with
    | false => simp [enc]
    | true =>
      by_cases h1 : free.length = 1
      · simp [enc, h1]
      · simp [enc, h1, show (1 : Int) < (free.length : Int) by omega]
  | d + 1, i, free, hd, hi, hf, hl, hpos => by
    have hlt : i < l0.length := by omega
    have h1 : (i : Int) < (l0.length : Int) := by omega
    have h2 : (0 : Int) ≤ (i : Int) := by omega
    have hw1 : wrap64 ((i : Int) + 1) = ((i + 1 : Nat) : Int) := by unfold wrap64; omega
    have hpe := ref_part_ev l0 i free hlt hn (fun y hy => by have := hf y hy; omega) (by omega)
    cases hs : stepB l0 (rd_T45 l0 (i : Int)) free with
    | false =>
      rw [formGo_no l0 i free hlt hs]
      rw [hs] at hpe
      obtain ⟨K, hK⟩ := hpe
      refine ⟨K + 1, fun k hk => ?_⟩
      obtain ⟨m, rfl⟩ : ∃ m, k = m + 1 := ⟨k - 1, by omega⟩
      have hKm := hK m (by omega)
      simp only at hKm
      simp only [berthref13_form.l0, if_pos h1, hKm, enc]
      rfl
    | true =>
      rw [formGo_yes l0 i free hlt hs]
      rw [hs] at hpe
      have hle : (rd_T45 l0 (i : Int)).f3.length ≤ free.length := by
        simp only [stepB, Bool.and_eq_true, decide_eq_true_eq] at hs; exact hs.1.1.2
      have hw : wrap64 ((free.length : Int) - ((rd_T45 l0 (i : Int)).f3.length : Int)) = ((free.length - (rd_T45 l0 (i : Int)).f3.length : Nat) : Int) := by unfold wrap64; omega
      have ih := ref_form_go l0 hn h0 d (i + 1) _ (by omega) (by omega) (stepF_mem (p := rd_T45 l0 (i : Int)) hf) (stepF_len hl) (fun _ => by simp [stepF])
      refine Ev.step (f := fun k => (berthref13_part.f k l0 (i : Int) free).bind fun t => if t = true then berthref13_form.l0 k (stepF (rd_T45 l0 (i : Int)) i free) ((i + 1 : Nat) : Int) l0 else some (130, (i : Int))) (fun k => ?_) (Ev.bind hpe (Ev.congr (f := fun k => berthref13_form.l0 k (stepF (rd_T45 l0 (i : Int)) i free) ((i + 1 : Nat) : Int) l0) (fun k => by simp) ih))
      simp only [berthref13_form.l0, if_pos h1, if_pos h2, hw, Int.toNat_natCast, Option.bind_some, List.nil_append, List.length_nil, Nat.zero_add, hw1]
      rw [if_pos (by omega), if_pos (by omega), if_pos (by simp; omega), if_pos (by simp; omega)]
      rfl
theorem ref_form_ev (l0 : List Pt) : Ev (fun k => berthref13_form.f k l0) (enc (formSpec l0)) := by
  unfold formSpec
  by_cases h0 : l0.length = 0
  · simp only [h0, if_true]
    exact Ev.congr (f := fun _ => some (130, 0)) (fun k => by simp [berthref13_form.f, h0]) (Ev.now _)
  · simp only [if_neg h0]
    by_cases h1 : 1000 < l0.length
    · simp only [if_pos h1]
      exact Ev.congr (f := fun _ => some (130, 1000)) (fun k => by simp only [berthref13_form.f]; rw [if_neg (by omega), if_pos (by omega)]) (Ev.now _)
    · simp only [if_neg h1]
      have := ref_form_go l0 (by omega) (by omega) l0.length 0 [] (by omega) (by omega) (fun y hy => by cases hy) (by simp) (by omega)
      refine Ev.congr (fun k => ?_) this
      simp only [berthref13_form.f]; rw [if_neg (by omega), if_neg (by omega)]; rfl

end Go.Proofs.YteeojceloljcbaaDoor.P
