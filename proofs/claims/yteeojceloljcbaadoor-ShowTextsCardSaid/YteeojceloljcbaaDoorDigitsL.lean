/-
  The plain law of the document's numerals: digits writes Lib.itoa.
-/
import Derived.Test.YteeojceloljcbaaDoorKRefQ
import Derived.Lib.ItoaLen
set_option linter.unusedVariables false
set_option linter.unusedSimpArgs false
namespace Go.Proofs.YteeojceloljcbaaDoor.P
open Go.RowKit Go.Proofs.YteeojceloljcbaaDoorW.PrintWords Go.Proofs.YteeojceloljcbaaDoorW.PrintLast

theorem strOfNums_one (v : Int) : strOfNums [v] = ⟨#[UInt8.ofNat v.toNat]⟩ := rfl
theorem digits_loop (u : Nat) : ∀ acc : ByteArray, u ≤ 9223372036854775807 → acc.size + Lib.nDigits u ≤ 1000 → Ev (fun k => berthref13_digits.l0 k (u : Int) acc) ⟨(Lib.decDigits u ++ acc.data.toList).toArray⟩ := by
  induction u using Nat.strongRecOn with
  | _ u ih =>
    intro acc hu hs
    have hn := Lib.nDigits_pos u
    by_cases h : u < 10
    · refine Ev.step (f := fun _ => some (⟨(Lib.decDigits u ++ acc.data.toList).toArray⟩ : ByteArray)) (fun k => ?_) (Ev.now _)
      have e1 : ¬ ((u : Int) ≥ 10) := by omega
      have e2 : wrap64 (48 + (u : Int)) % 256 = 48 + (u : Int) := by unfold wrap64; omega
      have e3 : (strOfNums [48 + (u : Int)]).size + acc.size ≤ 9223372036854775807 := by
        rw [strOfNums_one]; show 1 + acc.size ≤ _; omega
      simp only [berthref13_digits.l0, if_neg e1, e2, Option.bind_some, if_pos e3]
      rw [Lib.decDigits, dif_pos h]
      rfl
    · have e1 : ((u : Int) ≥ 10) := by omega
      have e2 : wrap64 (48 + Int.tmod (u : Int) 10) % 256 = ((48 + u % 10 : Nat) : Int) := by
        rw [Int.tmod_eq_emod_of_nonneg (by omega)]; unfold wrap64; omega
      have e3 : (strOfNums [((48 + u % 10 : Nat) : Int)]).size + acc.size ≤ 9223372036854775807 := by
        rw [strOfNums_one]; show 1 + acc.size ≤ _; omega
      have e4 : wrap64 (Int.tdiv (u : Int) 10) = ((u / 10 : Nat) : Int) := by
        rw [Int.tdiv_eq_ediv_of_nonneg (by omega)]; unfold wrap64; omega
      have hb := Lib.nDigits_big h
      have hi := ih (u / 10) (by omega) (strOfNums [((48 + u % 10 : Nat) : Int)] ++ acc) (by omega) (by
        rw [strOfNums_one, ByteArray.size_append]; show 1 + acc.size + _ ≤ _; omega)
      refine Ev.step (f := fun k => berthref13_digits.l0 k ((u / 10 : Nat) : Int) (strOfNums [((48 + u % 10 : Nat) : Int)] ++ acc)) (fun k => ?_) ?_
      · simp only [berthref13_digits.l0, if_pos e1, e2, Option.bind_some, if_pos e3, e4]
      · rw [strOfNums_one] at hi ⊢
        have e5 : Lib.decDigits u = Lib.decDigits (u / 10) ++ [UInt8.ofNat (48 + u % 10)] := by rw [Lib.decDigits, dif_neg h]
        rw [e5]
        have e6 : (⟨#[UInt8.ofNat (((48 + u % 10 : Nat) : Int)).toNat]⟩ ++ acc : ByteArray).data.toList = [UInt8.ofNat (48 + u % 10)] ++ acc.data.toList := by
          rw [ByteArray.data_append, Array.toList_append]; rfl
        rw [e6] at hi
        rw [List.append_assoc]
        exact hi
theorem nDigits_le (u : Nat) (h : u ≤ 9223372036854775807) : Lib.nDigits u ≤ 20 := Lib.nDigits_le20 u (by omega)
theorem digits_nat (u : Nat) (h : u ≤ 9223372036854775807) : Ev (fun k => berthref13_digits.f k (u : Int)) ⟨(Lib.decDigits u).toArray⟩ := by
  have hn := nDigits_le u h
  have := digits_loop u ⟨#[]⟩ h (by show 0 + _ ≤ _; omega)
  refine Ev.step (f := fun k => berthref13_digits.l0 k (u : Int) ⟨#[]⟩) (fun k => ?_) (by simpa using this)
  simp only [berthref13_digits.f, if_neg (show ¬ ((u : Int) < 0) by omega)]
theorem digits_ev (n : Int) (h0 : -9223372036854775807 ≤ n) (h1 : n ≤ 9223372036854775807) : Ev (fun k => berthref13_digits.f k n) ⟨(Lib.itoa n).toArray⟩ := by
  by_cases h : n < 0
  · obtain ⟨u, rfl⟩ : ∃ u : Nat, n = -(u : Int) := ⟨n.natAbs, by omega⟩
    rw [Lib.itoa_neg u (by omega)]
    have hn := nDigits_le u (by omega)
    refine Ev.step (f := fun k => (berthref13_digits.f k (u : Int)).bind fun t => if 1 + t.size ≤ 9223372036854775807 then some ((⟨#[45]⟩ : ByteArray) ++ t) else none) (fun k => ?_) ?_
    · simp only [berthref13_digits.f, if_pos h, show wrap64 (-(-(u : Int))) = (u : Int) by unfold wrap64; omega]
    · refine Ev.bind (digits_nat u (by omega)) ?_
      have hl : (⟨(Lib.decDigits u).toArray⟩ : ByteArray).size = Lib.nDigits u := by
        show (Lib.decDigits u).toArray.size = _
        simp [Lib.decDigits_length]
      refine Ev.congr (f := fun _ => some ((⟨#[45]⟩ : ByteArray) ++ ⟨(Lib.decDigits u).toArray⟩)) (fun k => if_pos (by rw [hl]; omega)) ?_
      have e : (⟨#[45]⟩ : ByteArray) ++ ⟨(Lib.decDigits u).toArray⟩ = ⟨(45 :: Lib.decDigits u).toArray⟩ := by
        apply ByteArray.ext
        rw [ByteArray.data_append]; simp
      rw [e]
      exact Ev.now _
  · obtain ⟨u, rfl⟩ : ∃ u : Nat, n = u := ⟨n.toNat, by omega⟩
    rw [Lib.itoa_nonneg]
    exact digits_nat u (by omega)
end Go.Proofs.YteeojceloljcbaaDoor.P
