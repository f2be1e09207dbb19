/-
  What a right shape says of every part; the nests.
-/
import Derived.Test.YteeojceloljcbaaDoorRenderL
import Derived.Test.YteeojceloljcbaaDoorKNests
import Derived.Test.YteeojceloljcbaaDoorKRefN
set_option linter.unusedVariables false
set_option linter.unusedSimpArgs false
namespace Go.Proofs.YteeojceloljcbaaDoor.P
open Go.RowKit Go.Proofs.YteeojceloljcbaaDoorW.PrintWords Go.Proofs.YteeojceloljcbaaDoorW.PrintLast
/-- What holds of the part at place j of a tree whose shape is right. -/
structure PartAt (l0 : List Pt) (j : Nat) : Prop where
  fit : partFitsB (rd_T45 l0 (j : Int)) = true
  kids : ∀ k ∈ (rd_T45 l0 (j : Int)).f3, 0 ≤ k ∧ k < (j : Int)
  few : (rd_T45 l0 (j : Int)).f3.length ≤ j
  class_ : ∀ k ∈ (rd_T45 l0 (j : Int)).f3, kidFitsB (rd_T45 l0 (j : Int)).f0 (rd_T45 l0 k).f0 = true
theorem stepB_part (l0 : List Pt) (j : Nat) (free : List Int) (hf : ∀ y ∈ free, 0 ≤ y ∧ y < (j : Int)) (hl : free.length ≤ j) (h : stepB l0 (rd_T45 l0 (j : Int)) free = true) : PartAt l0 j := by
  simp only [stepB, Bool.and_eq_true, beq_iff_eq, List.all_eq_true, decide_eq_true_eq] at h
  obtain ⟨⟨⟨h1, h2⟩, h3⟩, h4⟩ := h
  refine ⟨h1, fun k hk => hf k ?_, by omega, h4⟩
  rw [h3] at hk
  exact List.mem_of_mem_drop hk
theorem stepF_mem {p : Pt} {j : Nat} {free : List Int} (hf : ∀ y ∈ free, 0 ≤ y ∧ y < (j : Int)) : ∀ y ∈ stepF p j free, 0 ≤ y ∧ y < ((j + 1 : Nat) : Int) := by
  intro y hy
  rcases List.mem_append.1 hy with hy | hy
  · have := hf y (List.mem_of_mem_take hy); omega
  · have := List.mem_singleton.1 hy; omega
theorem stepF_len {p : Pt} {j : Nat} {free : List Int} (hl : free.length ≤ j) : (stepF p j free).length ≤ j + 1 := by
  simp [stepF]; omega
theorem formGo_parts (l0 : List Pt) : ∀ (d i : Nat) (free : List Int), d = l0.length - i → i ≤ l0.length → (∀ y ∈ free, 0 ≤ y ∧ y < (i : Int)) → free.length ≤ i → formGo l0 (l0.drop i) i free = none →
    (∀ j, i ≤ j → j < l0.length → PartAt l0 j) ∧ condB (rd_T45 l0 (l0.length - 1 : Int)).f0 = true
  | 0, i, free, hd, hi, hf, hl, h => by
    obtain rfl : i = l0.length := by omega
    rw [List.drop_length] at h
    refine ⟨fun j h1 h2 => by omega, ?_⟩
    simp only [formGo] at h
    cases hc : condB (rd_T45 l0 (l0.length - 1 : Int)).f0 with
    | true => rfl
    | false => simp [hc] at h
  | d + 1, i, free, hd, hi, hf, hl, h => by
    have hlt : i < l0.length := by omega
    cases hs : stepB l0 (rd_T45 l0 (i : Int)) free with
    | false => rw [formGo_no l0 i free hlt hs] at h; cases h
    | true =>
      rw [formGo_yes l0 i free hlt hs] at h
      obtain ⟨h1, h2⟩ := formGo_parts l0 d (i + 1) _ (by omega) (by omega) (stepF_mem hf) (stepF_len hl) h
      refine ⟨fun j hj hjl => ?_, h2⟩
      by_cases e : j = i
      · subst e; exact stepB_part l0 j free hf hl hs
      · exact h1 j (by omega) hjl
/-- A tree whose shape is right. -/
structure Shape (l0 : List Pt) : Prop where
  pos : 0 < l0.length
  few : l0.length ≤ 1000
  parts : ∀ j, j < l0.length → PartAt l0 j
  root : condB (rd_T45 l0 (l0.length - 1 : Int)).f0 = true
theorem formSpec_shape (l0 : List Pt) (h : formSpec l0 = none) : Shape l0 := by
  unfold formSpec at h
  by_cases h0 : l0.length = 0
  · simp [h0] at h
  · by_cases h1 : 1000 < l0.length
    · simp [h0, h1] at h
    · simp only [h0, h1, if_false] at h
      obtain ⟨h2, h3⟩ := formGo_parts l0 l0.length 0 [] (by omega) (by omega) (fun y hy => by cases hy) (by simp) h
      exact ⟨by omega, by omega, fun j hj => h2 j (by omega) hj, h3⟩

/-! ### The nests -/
def roundB (k : Int) : Int := if k = 3 ∨ k = 8 ∨ k = 9 ∨ k = 19 ∨ k = 20 then 1 else 0
def kidNest (l0 : List Pt) (p : Pt) (below : Int) (out : List Int) (k : Int) : List Int := out.set k.toNat (below + (if brackB p.f0 (rd_T45 l0 k).f0 then 1 else 0))
/-- The parts below place i, from the last one on. -/
def nestsGo (l0 : List Pt) : Nat → List Int → List Int
  | 0, out => out
  | i + 1, out => nestsGo l0 i ((rd_T45 l0 (i : Int)).f3.foldl (kidNest l0 (rd_T45 l0 (i : Int)) (out.getD i 0 + roundB (rd_T45 l0 (i : Int)).f0)) out)
def nestsSpec (l0 : List Pt) : List Int := nestsGo l0 l0.length (List.replicate l0.length 0)
/-- All numbers lie between 0 and m. -/
def Within (m : Int) (out : List Int) : Prop := ∀ y ∈ out, 0 ≤ y ∧ y ≤ m
theorem Within.set {m : Int} {out : List Int} (h : Within m out) (i : Nat) (x : Int) (hx : 0 ≤ x ∧ x ≤ m) : Within m (out.set i x) := by
  intro y hy
  rcases List.mem_or_eq_of_mem_set hy with hy | rfl
  · exact h y hy
  · exact hx
theorem Within.mono {m m' : Int} {out : List Int} (h : Within m out) (hm : m ≤ m') : Within m' out := fun y hy => ⟨(h y hy).1, Int.le_trans (h y hy).2 hm⟩
theorem Within.getD {m : Int} {out : List Int} (h : Within m out) (h0 : 0 ≤ m) (i : Nat) : 0 ≤ out.getD i 0 ∧ out.getD i 0 ≤ m := by
  rw [List.getD_eq_getElem?_getD]
  cases e : out[i]? with
  | none => simpa using h0
  | some y => simpa using h y (List.mem_of_getElem? e)

end Go.Proofs.YteeojceloljcbaaDoor.P
