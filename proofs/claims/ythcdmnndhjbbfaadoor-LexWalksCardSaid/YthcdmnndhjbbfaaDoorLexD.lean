/-
  The walks of digit, wordly, hex: the program's and the document's.
-/
import Derived.Test.YthcdmnndhjbbfaaDoorLexS
set_option linter.unusedVariables false
set_option linter.unusedSimpArgs false
namespace Go.Proofs.YthcdmnndhjbbfaaDoor.X
open Go.RowKit
theorem digI (c : UInt8) : digB c = (decide ((48 : Int) ≤ (c.toNat : Int)) && decide ((c.toNat : Int) ≤ 57)) := by
  rw [Bool.eq_iff_iff]; simp only [digB, Bool.and_eq_true, decide_eq_true_eq, UInt8.le_iff_toNat_le]; simp; omega
theorem lowI (c : UInt8) : (97 ≤ c && c ≤ 122) = (decide ((97 : Int) ≤ (c.toNat : Int)) && decide ((c.toNat : Int) ≤ 122)) := by
  rw [Bool.eq_iff_iff]; simp only [Bool.and_eq_true, decide_eq_true_eq, UInt8.le_iff_toNat_le]; simp; omega
theorem uppI (c : UInt8) : (65 ≤ c && c ≤ 90) = (decide ((65 : Int) ≤ (c.toNat : Int)) && decide ((c.toNat : Int) ≤ 90)) := by
  rw [Bool.eq_iff_iff]; simp only [Bool.and_eq_true, decide_eq_true_eq, UInt8.le_iff_toNat_le]; simp; omega
theorem lohI (c : UInt8) : (97 ≤ c && c ≤ 102) = (decide ((97 : Int) ≤ (c.toNat : Int)) && decide ((c.toNat : Int) ≤ 102)) := by
  rw [Bool.eq_iff_iff]; simp only [Bool.and_eq_true, decide_eq_true_eq, UInt8.le_iff_toNat_le]; simp; omega
theorem uphI (c : UInt8) : (65 ≤ c && c ≤ 70) = (decide ((65 : Int) ≤ (c.toNat : Int)) && decide ((c.toNat : Int) ≤ 70)) := by
  rw [Bool.eq_iff_iff]; simp only [Bool.and_eq_true, decide_eq_true_eq, UInt8.le_iff_toNat_le]; simp; omega
theorem u95I (c : UInt8) : (c == 95) = ((c.toNat : Int) == 95) := by
  by_cases h : c = 95
  · subst h; rfl
  · have : ((c.toNat : Int) == 95) = false := byte_ne c 95 (by decide) h
    rw [this]; simpa using h

/-- A range of bytes: both tests decided. -/
theorem rng (x a b : Int) : (decide (a ≤ x) = true ∧ decide (x ≤ b) = true) ∨ (decide (a ≤ x) = false) ∨ (decide (a ≤ x) = true ∧ decide (x ≤ b) = false) := by
  by_cases h1 : a ≤ x <;> by_cases h2 : x ≤ b <;> simp [h1, h2]

set_option maxRecDepth 100000 in
theorem digit_any (c : UInt8) (w : World) : Calls Tryd.prog 42 #[.int .u8 (c.toNat : Int)] w fun e w' => e = .returned (.bool (digB c)) ∧ w = w' := by
  rw [digI]
  rcases rng (c.toNat : Int) 48 57 with ⟨a, b⟩ | a | ⟨a, b⟩
  all_goals
    go_enter Tryd.func42, Tryd.ntmps42
    go_wp2
    go_ret
    exact ⟨by simp [*], rfl⟩
set_option maxRecDepth 100000 in
theorem wordly_any (c : UInt8) (w : World) : Calls Tryd.prog 44 #[.int .u8 (c.toNat : Int)] w fun e w' => e = .returned (.bool (wordB c)) ∧ w = w' := by
  have DC := Lib.hid (fun W => digit_any c W)
  have hw : wordB c = ((decide ((97 : Int) ≤ (c.toNat : Int)) && decide ((c.toNat : Int) ≤ 122)) || ((decide ((65 : Int) ≤ (c.toNat : Int)) && decide ((c.toNat : Int) ≤ 90)) || (digB c || ((c.toNat : Int) == 95)))) := by
    rw [← lowI, ← uppI, ← u95I, wordB]
    cases digB c <;> cases (97 ≤ c && c ≤ 122) <;> cases (65 ≤ c && c ≤ 90) <;> cases (c == 95) <;> rfl
  have HW := Lib.hid hw
  clear hw
  cases hd : digB c with
  | true =>
    rw [hd] at DC HW
    clear hd
    rcases rng (c.toNat : Int) 97 122 with ⟨a, b⟩ | a | ⟨a, b⟩
    all_goals
      rcases rng (c.toNat : Int) 65 90 with ⟨a2, b2⟩ | a2 | ⟨a2, b2⟩
    all_goals
      go_enter Tryd.func44, Tryd.ntmps44
      go_wp2_with (go_at_call 42; refine (DC.out _).mono ?_; rintro e w1 ⟨rfl, rfl⟩)
      go_ret
      exact ⟨by rw [HW.out]; simp [*], rfl⟩
  | false =>
    rw [hd] at DC HW
    clear hd
    rcases rng (c.toNat : Int) 97 122 with ⟨a, b⟩ | a | ⟨a, b⟩
    all_goals
      rcases rng (c.toNat : Int) 65 90 with ⟨a2, b2⟩ | a2 | ⟨a2, b2⟩
    all_goals
      go_enter Tryd.func44, Tryd.ntmps44
      go_wp2_with (go_at_call 42; refine (DC.out _).mono ?_; rintro e w1 ⟨rfl, rfl⟩)
      go_ret
      exact ⟨by rw [HW.out]; simp [*], rfl⟩
set_option maxRecDepth 100000 in
theorem hex_any (c : UInt8) (w : World) : Calls Tryd.prog 48 #[.int .u8 (c.toNat : Int)] w fun e w' => e = .returned (.bool (hexB c)) ∧ w = w' := by
  have DC := Lib.hid (fun W => digit_any c W)
  have hw : hexB c = (digB c || ((decide ((97 : Int) ≤ (c.toNat : Int)) && decide ((c.toNat : Int) ≤ 102)) || (decide ((65 : Int) ≤ (c.toNat : Int)) && decide ((c.toNat : Int) ≤ 70)))) := by
    rw [← lohI, ← uphI, hexB, Bool.or_assoc]
  have HW := Lib.hid hw
  clear hw
  cases hd : digB c
  all_goals
    rw [hd] at DC HW
    clear hd
    rcases rng (c.toNat : Int) 97 102 with ⟨a, b⟩ | a | ⟨a, b⟩
    all_goals
      rcases rng (c.toNat : Int) 65 70 with ⟨a2, b2⟩ | a2 | ⟨a2, b2⟩
    all_goals
      go_enter Tryd.func48, Tryd.ntmps48
      go_wp2_with (go_at_call 42; refine (DC.out _).mono ?_; rintro e w1 ⟨rfl, rfl⟩)
      go_ret
      exact ⟨by rw [HW.out]; simp [*], rfl⟩
set_option maxRecDepth 100000 in
theorem refDigit_any (c : UInt8) (w : World) : Calls Tryd.prog 38 #[.int .u8 (c.toNat : Int)] w fun e w' => e = .returned (.bool (digB c)) ∧ w = w' := by
  rw [digI]
  rcases rng (c.toNat : Int) 48 57 with ⟨a, b⟩ | a | ⟨a, b⟩
  all_goals
    go_enter Tryd.func38, Tryd.ntmps38
    go_wp2
    go_ret
    exact ⟨by simp [*], rfl⟩
set_option maxRecDepth 100000 in
theorem refWord_any (c : UInt8) (w : World) : Calls Tryd.prog 39 #[.int .u8 (c.toNat : Int)] w fun e w' => e = .returned (.bool (wordB c)) ∧ w = w' := by
  have DC := Lib.hid (fun W => refDigit_any c W)
  have hw : wordB c = (digB c || ((decide ((97 : Int) ≤ (c.toNat : Int)) && decide ((c.toNat : Int) ≤ 122)) || ((decide ((65 : Int) ≤ (c.toNat : Int)) && decide ((c.toNat : Int) ≤ 90)) || ((c.toNat : Int) == 95)))) := by
    rw [← lowI, ← uppI, ← u95I, wordB, Bool.or_assoc, Bool.or_assoc]
  have HW := Lib.hid hw
  clear hw
  cases hd : digB c
  all_goals
    rw [hd] at DC HW
    clear hd
    rcases rng (c.toNat : Int) 97 122 with ⟨a, b⟩ | a | ⟨a, b⟩
    all_goals
      rcases rng (c.toNat : Int) 65 90 with ⟨a2, b2⟩ | a2 | ⟨a2, b2⟩
    all_goals
      go_enter Tryd.func39, Tryd.ntmps39
      go_wp2_with (go_at_call 38; refine (DC.out _).mono ?_; rintro e w1 ⟨rfl, rfl⟩)
      go_ret
      exact ⟨by rw [HW.out]; simp [*], rfl⟩
/-- The worth of a digit of base sixteen, or -1. -/
def hexI (c : UInt8) : Int := if digB c then (c.toNat : Int) - 48 else if (97 ≤ c && c ≤ 102) then (c.toNat : Int) - 87 else if (65 ≤ c && c ≤ 70) then (c.toNat : Int) - 55 else -1
set_option maxRecDepth 100000 in
theorem refHex_any (c : UInt8) (w : World) : Calls Tryd.prog 50 #[.int .u8 (c.toNat : Int)] w fun e w' => e = .returned (.int .i64 (hexI c)) ∧ w = w' := by
  have DC := Lib.hid (fun W => refDigit_any c W)
  have hw : hexI c = if digB c then (c.toNat : Int) - 48 else if (decide ((97 : Int) ≤ (c.toNat : Int)) && decide ((c.toNat : Int) ≤ 102)) then (c.toNat : Int) - 87 else if (decide ((65 : Int) ≤ (c.toNat : Int)) && decide ((c.toNat : Int) ≤ 70)) then (c.toNat : Int) - 55 else -1 := by
    rw [hexI, lohI, uphI]
  have HW := Lib.hid hw
  have hd := digI c
  clear hw
  have hc8 := c.toNat_lt
  generalize hx : (c.toNat : Int) = x at *
  have hx0 : 0 ≤ x := by omega
  have hx1 : x ≤ 255 := by omega
  clear hx hc8
  cases hdd : digB c with
  | true =>
    rw [hdd] at DC HW hd
    have hr : 48 ≤ x ∧ x ≤ 57 := by simpa using hd.symm
    obtain ⟨hr1, hr2⟩ := hr
    clear hdd hd
    go_enter Tryd.func50, Tryd.ntmps50
    go_wp2_with (go_at_call 38; refine (DC.out _).mono ?_; rintro e w1 ⟨rfl, rfl⟩)
    go_ret
    exact ⟨by rw [HW.out]; simp, rfl⟩
  | false =>
    rw [hdd] at DC HW
    clear hdd hd
    rcases rng x 97 102 with ⟨a, b⟩ | a | ⟨a, b⟩
    · have hr1 : 97 ≤ x := of_decide_eq_true a
      have hr2 : x ≤ 102 := of_decide_eq_true b
      go_enter Tryd.func50, Tryd.ntmps50
      go_wp2_with (go_at_call 38; refine (DC.out _).mono ?_; rintro e w1 ⟨rfl, rfl⟩)
      go_ret
      exact ⟨by rw [HW.out]; simp [*]; omega, rfl⟩
    all_goals
      rcases rng x 65 70 with ⟨a2, b2⟩ | a2 | ⟨a2, b2⟩
    all_goals
      try have hr1 : 65 ≤ x := of_decide_eq_true a2
      try have hr2 : x ≤ 70 := of_decide_eq_true b2
      go_enter Tryd.func50, Tryd.ntmps50
      go_wp2_with (go_at_call 38; refine (DC.out _).mono ?_; rintro e w1 ⟨rfl, rfl⟩)
      go_ret
      exact ⟨by rw [HW.out]; simp [*] <;> omega, rfl⟩

end Go.Proofs.YthcdmnndhjbbfaaDoor.X
