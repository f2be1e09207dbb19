/-
  The plain law of a tree's shape: which parts fit, as functions of lists and numbers.
-/
import Derived.Test.YtghhnnbbjlipcaaGreatDoorKLeaf
set_option linter.unusedVariables false
set_option linter.unusedSimpArgs false
namespace Go.Proofs.YtghhnnbbjlipcaaGreatDoor.P
open Go.RowKit Go.Proofs.YtghhnnbbjlipcaaGreatDoorW.PrintWords Go.Proofs.YtghhnnbbjlipcaaGreatDoorW.PrintLast
abbrev Pt := S45
def condB (k : Int) : Bool := decide (1 ≤ k ∧ k ≤ 10)
def termB (k : Int) : Bool := decide (11 ≤ k ∧ k ≤ 20)
def kidCountB (k n : Int) : Bool :=
  if k = 3 ∨ k = 8 ∨ k = 9 ∨ k = 19 ∨ k = 20 then n == 1 else if k = 4 ∨ k = 5 then decide (2 ≤ n) else if k = 6 ∨ k = 7 then n == 2 else if k = 13 then decide (n ≤ 64) else n == 0
def usesTextB (k : Int) : Bool := decide (k = 8 ∨ k = 9 ∨ k = 10 ∨ k = 11 ∨ k = 14 ∨ k = 18 ∨ k = 20)
def numFitsB (k n : Int) : Bool :=
  if k = 6 then decide (1 ≤ n ∧ n ≤ 6) else if k = 7 then decide (n = 0 ∨ n = 1) else if k = 12 then decide (-999999999999999999 ≤ n ∧ n ≤ 999999999999999999)
  else if k = 14 ∨ k = 15 ∨ k = 16 ∨ k = 17 ∨ k = 18 then decide (1 ≤ n ∧ n ≤ 3) else n == 0
def kidFitsB (a b : Int) : Bool :=
  if a = 3 ∨ a = 4 ∨ a = 5 ∨ a = 8 ∨ a = 9 ∨ a = 20 then condB b else if a = 13 then (b == 11 || b == 12) else termB b
def brackB (a b : Int) : Bool := if a = 3 ∨ a = 4 then (b == 4 || b == 5) else if a = 5 then b == 5 else false
def partFitsB (p : Pt) : Bool :=
  decide (1 ≤ p.f0 ∧ p.f0 ≤ 20) && (decide (p.f1.size ≤ 127) && (p.f1.size == 0 || usesTextB p.f0)) && (numFitsB p.f0 p.f2 && kidCountB p.f0 (p.f3.length : Int))

theorem isCondition_eq (k : Int) : show_isCondition.f k = some (condB k) := by
  unfold show_isCondition.f condB
  by_cases h : k ≥ 1 <;> simp [h] <;> omega
theorem isTerm_eq (k : Int) : show_isTerm.f k = some (termB k) := by
  unfold show_isTerm.f termB
  by_cases h : k ≥ 11 <;> simp [h] <;> omega
theorem usesText_eq (k : Int) : show_usesText.f k = some (usesTextB k) := by
  unfold show_usesText.f usesTextB
  repeat' split
  all_goals simp_all
theorem numFits_eq (k n : Int) : show_numFits.f k n = some (numFitsB k n) := by
  unfold show_numFits.f numFitsB
  repeat' split
  all_goals (first | rfl | (exfalso; omega) | (simp_all; done) | (simp_all; omega) | (simp only [Option.some.injEq]; rw [Bool.eq_iff_iff]; simp; omega) | skip)
theorem kidCount_eq (k n : Int) : show_kidCount.f 4 k n = some (kidCountB k n) := by
  by_cases h3 : k = 3
  · subst h3; simp [show_kidCount.f, show_kidCount.j0, show_kidCount.j1, show_kidCount.j2, kidCountB]
  by_cases h4 : k = 4
  · subst h4; simp [show_kidCount.f, show_kidCount.j0, show_kidCount.j1, show_kidCount.j2, kidCountB]
  by_cases h5 : k = 5
  · subst h5; simp [show_kidCount.f, show_kidCount.j0, show_kidCount.j1, show_kidCount.j2, kidCountB]
  by_cases h6 : k = 6
  · subst h6; simp [show_kidCount.f, show_kidCount.j0, show_kidCount.j1, show_kidCount.j2, kidCountB]
  by_cases h7 : k = 7
  · subst h7; simp [show_kidCount.f, show_kidCount.j0, show_kidCount.j1, show_kidCount.j2, kidCountB]
  by_cases h8 : k = 8
  · subst h8; simp [show_kidCount.f, show_kidCount.j0, show_kidCount.j1, show_kidCount.j2, kidCountB]
  by_cases h9 : k = 9
  · subst h9; simp [show_kidCount.f, show_kidCount.j0, show_kidCount.j1, show_kidCount.j2, kidCountB]
  by_cases h13 : k = 13
  · subst h13; simp [show_kidCount.f, show_kidCount.j0, show_kidCount.j1, show_kidCount.j2, kidCountB]
  by_cases h19 : k = 19
  · subst h19; simp [show_kidCount.f, show_kidCount.j0, show_kidCount.j1, show_kidCount.j2, kidCountB]
  by_cases h20 : k = 20
  · subst h20; simp [show_kidCount.f, show_kidCount.j0, show_kidCount.j1, show_kidCount.j2, kidCountB]
  simp [show_kidCount.f, show_kidCount.j0, show_kidCount.j1, show_kidCount.j2, kidCountB, h3, h4, h5, h6, h7, h8, h9, h13, h19, h20]
theorem kidFits_eq (a b : Int) : show_kidFits.f 2 a b = some (kidFitsB a b) := by
  by_cases h3 : a = 3
  · subst h3; simp [show_kidFits.f, show_kidFits.j0, kidFitsB, isCondition_eq, isTerm_eq]
  by_cases h4 : a = 4
  · subst h4; simp [show_kidFits.f, show_kidFits.j0, kidFitsB, isCondition_eq, isTerm_eq]
  by_cases h5 : a = 5
  · subst h5; simp [show_kidFits.f, show_kidFits.j0, kidFitsB, isCondition_eq, isTerm_eq]
  by_cases h8 : a = 8
  · subst h8; simp [show_kidFits.f, show_kidFits.j0, kidFitsB, isCondition_eq, isTerm_eq]
  by_cases h9 : a = 9
  · subst h9; simp [show_kidFits.f, show_kidFits.j0, kidFitsB, isCondition_eq, isTerm_eq]
  by_cases h13 : a = 13
  · subst h13; by_cases hb : b = 11 <;> simp [show_kidFits.f, show_kidFits.j0, kidFitsB, isCondition_eq, isTerm_eq, hb]
  by_cases h20 : a = 20
  · subst h20; simp [show_kidFits.f, show_kidFits.j0, kidFitsB, isCondition_eq, isTerm_eq]
  simp [show_kidFits.f, show_kidFits.j0, kidFitsB, isCondition_eq, isTerm_eq, h3, h4, h5, h8, h9, h13, h20]
theorem bracketed_eq (a b : Int) : show_bracketed.f 2 a b = some (brackB a b) := by
  by_cases h3 : a = 3
  · subst h3; by_cases hb : b = 4 <;> simp [show_bracketed.f, show_bracketed.j0, brackB, hb]
  by_cases h4 : a = 4
  · subst h4; by_cases hb : b = 4 <;> simp [show_bracketed.f, show_bracketed.j0, brackB, hb]
  by_cases h5 : a = 5
  · subst h5; simp [show_bracketed.f, show_bracketed.j0, brackB]
  simp [show_bracketed.f, show_bracketed.j0, brackB, h3, h4, h5]
theorem partFits_eq (p : Pt) : show_partFits.f 6 p.f0 p.f1 p.f2 p.f3 = some (partFitsB p) := by
  have hs : p.f1.toList = ([] : List UInt8) ↔ p.f1.size = 0 := by
    rw [ByteArray.toList_eq]
    obtain ⟨a⟩ := p.f1
    show a.toList = [] ↔ a.size = 0
    simp
  have hk := kidCount_eq p.f0 p.f3.length
  simp only [show_partFits.f, show_partFits.j0, show_partFits.j1, usesText_eq, numFits_eq, hk, Option.bind_some, partFitsB, hs]
  by_cases h1 : p.f0 < 1
  · simp [h1, show ¬ (1 ≤ p.f0) by omega]
  · by_cases h2 : p.f0 > 20
    · simp [h1, h2, show ¬ (p.f0 ≤ 20) by omega]
    · have h1' : 1 ≤ p.f0 := by omega
      have h2' : p.f0 ≤ 20 := by omega
      simp only [if_neg h1, h2, decide_false, Bool.false_eq_true, if_false, h1', h2', and_self, decide_true, Bool.true_and]
      by_cases h3 : (p.f1.size : Int) > 127
      · simp [h3, show ¬ (p.f1.size ≤ 127) by omega]
      · have h3' : p.f1.size ≤ 127 := by omega
        simp only [if_neg h3, h3', decide_true, Bool.true_and]
        by_cases h4 : p.f1.size = 0
        · simp only [h4, if_true, beq_self_eq_true, Bool.true_or, Bool.true_and]
          cases numFitsB p.f0 p.f2 <;> simp
        · simp only [if_neg h4, show (p.f1.size == 0) = false by simpa using h4, Bool.false_or]
          cases usesTextB p.f0 <;> cases numFitsB p.f0 p.f2 <;> simp

/-- Does the part fit, with these parts that are nobody's kid yet ahead of it? -/
def stepB (parts : List Pt) (p : Pt) (free : List Int) : Bool :=
  partFitsB p && decide (p.f3.length ≤ free.length) && (p.f3 == free.drop (free.length - p.f3.length)) && p.f3.all (fun k => kidFitsB p.f0 (rd_T45 parts k).f0)
/-- Who is nobody's kid behind it. -/
def stepF (p : Pt) (i : Nat) (free : List Int) : List Int := free.take (free.length - p.f3.length) ++ [(i : Int)]
/-- The parts from place i on. -/
def formGo (parts : List Pt) : List Pt → Nat → List Int → Option (Int × Int)
  | [], i, free => if condB (rd_T45 parts (parts.length - 1 : Int)).f0 && (free.length == 1) then none else some (130, (parts.length : Int) - 1)
  | p :: ps, i, free => if stepB parts p free then formGo parts ps (i + 1) (stepF p i free) else some (130, (i : Int))
/-- The fault of a tree's shape: code and place. -/
def formSpec (parts : List Pt) : Option (Int × Int) :=
  if parts.length = 0 then some (130, 0) else if 1000 < parts.length then some (130, 1000) else formGo parts parts 0 []

theorem drop_part (l0 : List Pt) (k : Nat) (h : k < l0.length) : l0.drop k = rd_T45 l0 (k : Int) :: l0.drop (k + 1) := by
  rw [List.drop_eq_getElem_cons h]
  congr 1
  simp [rd_T45, List.getD_eq_getElem?_getD, List.getElem?_eq_getElem h]
theorem formGo_no (l0 : List Pt) (k : Nat) (free : List Int) (h : k < l0.length) (hs : stepB l0 (rd_T45 l0 (k : Int)) free = false) : formGo l0 (l0.drop k) k free = some (130, (k : Int)) := by
  rw [drop_part l0 k h]; simp [formGo, hs]
theorem formGo_yes (l0 : List Pt) (k : Nat) (free : List Int) (h : k < l0.length) (hs : stepB l0 (rd_T45 l0 (k : Int)) free = true) : formGo l0 (l0.drop k) k free = formGo l0 (l0.drop (k + 1)) (k + 1) (stepF (rd_T45 l0 (k : Int)) k free) := by
  rw [drop_part l0 k h]; simp [formGo, hs]
/-- The first j kids fit. -/
def kidsTo (l0 : List Pt) (p : Pt) (free : List Int) (j : Nat) : Prop :=
  ∀ i, i < j → p.f3.getD i 0 = free.getD (free.length - p.f3.length + i) 0 ∧ kidFitsB p.f0 (rd_T45 l0 (p.f3.getD i 0)).f0 = true
theorem stepB_all (l0 : List Pt) (p : Pt) (free : List Int) (h1 : partFitsB p = true) (h2 : p.f3.length ≤ free.length) (hk : kidsTo l0 p free p.f3.length) : stepB l0 p free = true := by
  have e : p.f3 = free.drop (free.length - p.f3.length) := by
    apply List.ext_getElem?
    intro i
    by_cases hi : i < p.f3.length
    · have := (hk i hi).1
      rw [List.getElem?_drop, List.getElem?_eq_getElem hi, List.getElem?_eq_getElem (show free.length - p.f3.length + i < free.length by omega)]
      simp [List.getD_eq_getElem?_getD, List.getElem?_eq_getElem hi, List.getElem?_eq_getElem (show free.length - p.f3.length + i < free.length by omega)] at this
      rw [this]
    · rw [List.getElem?_eq_none (by omega), List.getElem?_eq_none (by simp; omega)]
  have a : p.f3.all (fun k => kidFitsB p.f0 (rd_T45 l0 k).f0) = true := by
    rw [List.all_eq_true]
    intro x hx
    obtain ⟨i, hi, rfl⟩ := List.getElem_of_mem hx
    have := (hk i hi).2
    simpa [List.getD_eq_getElem?_getD, List.getElem?_eq_getElem hi] using this
  have b : (p.f3 == free.drop (free.length - p.f3.length)) = true := by rw [← e]; simp
  simp only [stepB, h1, a, b, h2, decide_true, Bool.and_self]
theorem stepB_bad (l0 : List Pt) (p : Pt) (free : List Int) (j : Nat) (hj : j < p.f3.length) (h2 : p.f3.length ≤ free.length)
    (h : ¬ (p.f3.getD j 0 = free.getD (free.length - p.f3.length + j) 0 ∧ kidFitsB p.f0 (rd_T45 l0 (p.f3.getD j 0)).f0 = true)) : stepB l0 p free = false := by
  rw [Bool.eq_false_iff]
  intro hs
  simp only [stepB, Bool.and_eq_true, beq_iff_eq, List.all_eq_true] at hs
  obtain ⟨⟨_, he⟩, ha⟩ := hs
  apply h
  constructor
  · conv => lhs; rw [he]
    simp [List.getD_eq_getElem?_getD, List.getElem?_drop]
  · have := ha (p.f3[j]) (List.getElem_mem hj)
    simpa [List.getD_eq_getElem?_getD, List.getElem?_eq_getElem hj] using this

end Go.Proofs.YtghhnnbbjlipcaaGreatDoor.P
