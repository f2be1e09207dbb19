-- Taken by a program of this session (pick.py) out of what print.sh printed for this seat.
import Derived.Test.YteeojceloljcbaaDoorKCopy
namespace Go.Proofs.YteeojceloljcbaaDoor.P
open Go.RowKit Go.Proofs.YteeojceloljcbaaDoorW.PrintWords Go.Proofs.YteeojceloljcbaaDoorW.PrintLast Go.Proofs.YteeojceloljcbaaDoorW.PrintMore
attribute [local go_sem] max2_int min2_int max_two min_two max_three min_three max_four min_four
set_option linter.unusedVariables false
set_option linter.unusedSimpArgs false

/-! ### berthref13_kids: function 46 -/
mutual
def berthref13_kids.j0 : Nat → Int → Int → Bool → Option (Bool)
  | 0, _, _, _ => none
  | k + 1, x1, x5, x6 => if x6 = true then (some (x1 == 1)) else (if x5 = 4 then (berthref13_kids.j1 k x1 x5 (x5 == 4)) else (berthref13_kids.j1 k x1 x5 (x5 == 5)))
def berthref13_kids.j1 : Nat → Int → Int → Bool → Option (Bool)
  | 0, _, _, _ => none
  | k + 1, x1, x5, x14 => if x14 = true then (some (decide (x1 ≥ 2))) else (if x5 = 6 then (berthref13_kids.j2 k x1 x5 (x5 == 6)) else (berthref13_kids.j2 k x1 x5 (x5 == 7)))
def berthref13_kids.j2 : Nat → Int → Int → Bool → Option (Bool)
  | 0, _, _, _ => none
  | k + 1, x1, x5, x19 => if x19 = true then (some (x1 == 2)) else (if x5 = 13 then (some (decide (x1 ≤ 64))) else (some (x1 == 0)))
end
def berthref13_kids.f (k : Nat) (a0 : Int) (a1 : Int) : Option (Bool) := if a0 = 3 then (berthref13_kids.j0 k a1 a0 (a0 == 3)) else (if a0 = 8 then (berthref13_kids.j0 k a1 a0 (a0 == 8)) else (if a0 = 9 then (berthref13_kids.j0 k a1 a0 (a0 == 9)) else (if a0 = 19 then (berthref13_kids.j0 k a1 a0 (a0 == 19)) else (berthref13_kids.j0 k a1 a0 (a0 == 20)))))
theorem berthref13_kids.mono_l : ∀ k, (∀ y0 y1 y2, LeO (berthref13_kids.j0 k y0 y1 y2) (berthref13_kids.j0 (k + 1) y0 y1 y2)) ∧ (∀ y0 y1 y2, LeO (berthref13_kids.j1 k y0 y1 y2) (berthref13_kids.j1 (k + 1) y0 y1 y2)) ∧ (∀ y0 y1 y2, LeO (berthref13_kids.j2 k y0 y1 y2) (berthref13_kids.j2 (k + 1) y0 y1 y2))
  | 0 => ⟨fun _ _ _ r h => by simp [berthref13_kids.j0] at h, fun _ _ _ r h => by simp [berthref13_kids.j1] at h, fun _ _ _ r h => by simp [berthref13_kids.j2] at h⟩
  | k + 1 => by
    obtain ⟨ih0, ih1, ih2⟩ := berthref13_kids.mono_l k
    refine ⟨?_, ?_, ?_⟩
    · intro y0 y1 y2
      unfold berthref13_kids.j0
      repeat' first
      | (with_reducible exact ih0 _ _ _)
      | (with_reducible exact ih1 _ _ _)
      | (with_reducible exact ih2 _ _ _)
      | (with_reducible exact LeO.refl _)
      | (with_reducible exact LeO.none _)
      | (with_reducible refine LeO.ite ?_ ?_)
      | (with_reducible refine LeO.bind ?_ (fun _ => ?_))
      | exact ih0 _ _ _
      | exact ih1 _ _ _
      | exact ih2 _ _ _
      | exact LeO.none _
      | refine LeO.ite ?_ ?_
      | refine LeO.bind ?_ (fun _ => ?_)
    · intro y0 y1 y2
      unfold berthref13_kids.j1
      repeat' first
      | (with_reducible exact ih0 _ _ _)
      | (with_reducible exact ih1 _ _ _)
      | (with_reducible exact ih2 _ _ _)
      | (with_reducible exact LeO.refl _)
      | (with_reducible exact LeO.none _)
      | (with_reducible refine LeO.ite ?_ ?_)
      | (with_reducible refine LeO.bind ?_ (fun _ => ?_))
      | exact ih0 _ _ _
      | exact ih1 _ _ _
      | exact ih2 _ _ _
      | exact LeO.none _
      | refine LeO.ite ?_ ?_
      | refine LeO.bind ?_ (fun _ => ?_)
    · intro y0 y1 y2
      unfold berthref13_kids.j2
      repeat' first
      | (with_reducible exact ih0 _ _ _)
      | (with_reducible exact ih1 _ _ _)
      | (with_reducible exact ih2 _ _ _)
      | (with_reducible exact LeO.refl _)
      | (with_reducible exact LeO.none _)
      | (with_reducible refine LeO.ite ?_ ?_)
      | (with_reducible refine LeO.bind ?_ (fun _ => ?_))
      | exact ih0 _ _ _
      | exact ih1 _ _ _
      | exact ih2 _ _ _
      | exact LeO.none _
      | refine LeO.ite ?_ ?_
      | refine LeO.bind ?_ (fun _ => ?_)
theorem berthref13_kids.mono : ∀ a0 a1 k, LeO (berthref13_kids.f k a0 a1) (berthref13_kids.f (k + 1) a0 a1) := by
  intro a0 a1 k
  obtain ⟨ih0, ih1, ih2⟩ := berthref13_kids.mono_l k
  unfold berthref13_kids.f
  repeat' first
      | (with_reducible exact ih0 _ _ _)
      | (with_reducible exact ih1 _ _ _)
      | (with_reducible exact ih2 _ _ _)
      | (with_reducible exact LeO.refl _)
      | (with_reducible exact LeO.none _)
      | (with_reducible refine LeO.ite ?_ ?_)
      | (with_reducible refine LeO.bind ?_ (fun _ => ?_))
      | exact ih0 _ _ _
      | exact ih1 _ _ _
      | exact ih2 _ _ _
      | exact LeO.none _
      | refine LeO.ite ?_ ?_
      | refine LeO.bind ?_ (fun _ => ?_)
set_option maxHeartbeats 8000000 in
set_option maxRecDepth 100000 in
theorem berthref13_kids.calls (k : Nat) (a0 : Int) (a1 : Int) (r : Bool) (w : World) (h : berthref13_kids.f k a0 a1 = some r) :
    Calls Tryd.prog 46 #[.int .i64 a0, .int .i64 a1] w fun e w' => e = .returned (.bool r) ∧ Drawn0 w w' := by
  have H : (if a0 = 3 then (berthref13_kids.j0 k a1 a0 (a0 == 3)) else (if a0 = 8 then (berthref13_kids.j0 k a1 a0 (a0 == 8)) else (if a0 = 9 then (berthref13_kids.j0 k a1 a0 (a0 == 9)) else (if a0 = 19 then (berthref13_kids.j0 k a1 a0 (a0 == 19)) else (berthref13_kids.j0 k a1 a0 (a0 == 20)))))) = some r := h
  clear h
  have HC3 := Aside0.mk H
  clear H
  go_enter Tryd.func46, Tryd.ntmps46
  go_upto_if 6 with (fail)
  go_cut [6] (fun v6 wc => ∃ (kq : Nat) (x6_2 : Bool), v6 = .bool x6_2 ∧ Aside0 (berthref13_kids.j0 kq a1 a0 x6_2 = some r) ∧ Aside0 (kq ≤ k) ∧ Drawn0 w wc)
  case first =>
    have H := HC3.out
    clear HC3
    by_cases c4 : a0 = 3
    · rw [if_pos c4] at H
      have c4b0 : (a0 == 3) = true := beq_iff_eq.mpr c4
      have c4b1 : (a0 != 3) = false := bne_eq_false_iff_eq.mpr c4
      clear c4
      (first | rw [c4b0] | (simp only [i64_w, i32_w]; rw [c4b0]) | skip)
      have H' := Aside0.mk H
      clear H
      go_wp2
      go_meet
      case rel => exact ⟨_, ((a0 == 3)), (by first | rfl | (simp; done) | (simp [*]; done)), H', ⟨by first | omega | exact Nat.le_refl _⟩, by repeat (first | exact Drawn0.refl _ | apply Drawn0.step)⟩
    · rw [if_neg c4] at H
      have c4b0 : (a0 == 3) = false := beq_eq_false_iff_ne.mpr c4
      have c4b1 : (a0 != 3) = true := bne_iff_ne.mpr c4
      (first | rw [c4b0] | (simp only [i64_w, i32_w]; rw [c4b0]) | skip)
      by_cases c5 : a0 = 8
      · rw [if_pos c5] at H
        have c5b0 : (a0 == 8) = true := beq_iff_eq.mpr c5
        have c5b1 : (a0 != 8) = false := bne_eq_false_iff_eq.mpr c5
        clear c5
        have H' := Aside0.mk H
        clear H
        go_wp2
        go_meet
        case rel => exact ⟨_, ((a0 == 8)), (by first | rfl | (simp; done) | (simp [*]; done)), H', ⟨by first | omega | exact Nat.le_refl _⟩, by repeat (first | exact Drawn0.refl _ | apply Drawn0.step)⟩
      · rw [if_neg c5] at H
        have c5b0 : (a0 == 8) = false := beq_eq_false_iff_ne.mpr c5
        have c5b1 : (a0 != 8) = true := bne_iff_ne.mpr c5
        by_cases c6 : a0 = 9
        · rw [if_pos c6] at H
          have c6b0 : (a0 == 9) = true := beq_iff_eq.mpr c6
          have c6b1 : (a0 != 9) = false := bne_eq_false_iff_eq.mpr c6
          clear c6
          have H' := Aside0.mk H
          clear H
          go_wp2
          go_meet
          case rel => exact ⟨_, ((a0 == 9)), (by first | rfl | (simp; done) | (simp [*]; done)), H', ⟨by first | omega | exact Nat.le_refl _⟩, by repeat (first | exact Drawn0.refl _ | apply Drawn0.step)⟩
        · rw [if_neg c6] at H
          have c6b0 : (a0 == 9) = false := beq_eq_false_iff_ne.mpr c6
          have c6b1 : (a0 != 9) = true := bne_iff_ne.mpr c6
          by_cases c7 : a0 = 19
          · rw [if_pos c7] at H
            have c7b0 : (a0 == 19) = true := beq_iff_eq.mpr c7
            have c7b1 : (a0 != 19) = false := bne_eq_false_iff_eq.mpr c7
            clear c7
            have H' := Aside0.mk H
            clear H
            go_wp2
            go_meet
            case rel => exact ⟨_, ((a0 == 19)), (by first | rfl | (simp; done) | (simp [*]; done)), H', ⟨by first | omega | exact Nat.le_refl _⟩, by repeat (first | exact Drawn0.refl _ | apply Drawn0.step)⟩
          · rw [if_neg c7] at H
            have c7b0 : (a0 == 19) = false := beq_eq_false_iff_ne.mpr c7
            have c7b1 : (a0 != 19) = true := bne_iff_ne.mpr c7
            have H' := Aside0.mk H
            clear H
            go_wp2
            go_meet
            case rel => exact ⟨_, ((a0 == 20)), (by first | rfl | (simp; done) | (simp [*]; done)), H', ⟨by first | omega | exact Nat.le_refl _⟩, by repeat (first | exact Drawn0.refl _ | apply Drawn0.step)⟩
  case rest =>
    clear HC3
    try clear p2
    try clear c4
    try clear c4b0
    try clear c4b1
    try clear c5
    try clear c5b0
    try clear c5b1
    try clear c6
    try clear c6b0
    try clear c6b1
    try clear c7
    try clear c7b0
    try clear c7b1
    obtain ⟨kq, x6_2, rfl, HA, HJ2, ⟨mc2, rfl⟩⟩ := hcut
    cases kq with
    | zero => exact absurd HA.out (by simp [berthref13_kids.j0])
    | succ kj2 =>
      have H := HA.out
      clear HA
      simp only [berthref13_kids.j0] at H
      by_cases c8 : x6_2 = true
      · subst c8
        have H1 : (some (a1 == 1)) = some r := by rw [if_pos rfl] at H; exact H
        clear H
        have H := H1
        clear H1
        obtain rfl := Option.some.inj H
        go_wp2
        go_ret
        exact ⟨by first | rfl | (simp; done) | (simp [*]; done), by repeat (first | exact Drawn0.refl _ | apply Drawn0.step)⟩
      · replace c8 := Bool.eq_false_iff.mpr c8
        subst c8
        have H1 : (if a0 = 4 then (berthref13_kids.j1 kj2 a1 a0 (a0 == 4)) else (berthref13_kids.j1 kj2 a1 a0 (a0 == 5))) = some r := by rw [if_neg (show ¬ (false = true) by decide)] at H; exact H
        clear H
        have H := H1
        clear H1
        have HC9 := Aside0.mk H
        clear H
        go_upto_if 14 with (fail)
        go_cut [14] (fun v14 wc => ∃ (kq : Nat) (x14_8 : Bool), v14 = .bool x14_8 ∧ Aside0 (berthref13_kids.j1 kq a1 a0 x14_8 = some r) ∧ Aside0 (kq ≤ kj2) ∧ Drawn0 w wc)
        case first =>
          have H := HC9.out
          clear HC9
          by_cases c10 : a0 = 4
          · rw [if_pos c10] at H
            have c10b0 : (a0 == 4) = true := beq_iff_eq.mpr c10
            have c10b1 : (a0 != 4) = false := bne_eq_false_iff_eq.mpr c10
            clear c10
            (first | rw [c10b0] | (simp only [i64_w, i32_w]; rw [c10b0]) | skip)
            have H' := Aside0.mk H
            clear H
            go_wp2
            go_meet
            case rel => exact ⟨_, ((a0 == 4)), (by first | rfl | (simp; done) | (simp [*]; done)), H', ⟨by have := HJ2.out; first | omega | exact Nat.le_refl _⟩, by repeat (first | exact Drawn0.refl _ | apply Drawn0.step)⟩
          · rw [if_neg c10] at H
            have c10b0 : (a0 == 4) = false := beq_eq_false_iff_ne.mpr c10
            have c10b1 : (a0 != 4) = true := bne_iff_ne.mpr c10
            (first | rw [c10b0] | (simp only [i64_w, i32_w]; rw [c10b0]) | skip)
            have H' := Aside0.mk H
            clear H
            go_wp2
            go_meet
            case rel => exact ⟨_, ((a0 == 5)), (by first | rfl | (simp; done) | (simp [*]; done)), H', ⟨by have := HJ2.out; first | omega | exact Nat.le_refl _⟩, by repeat (first | exact Drawn0.refl _ | apply Drawn0.step)⟩
        case rest =>
          clear HC9
          try clear c1
          try clear c2
          try clear p2
          try clear c4
          try clear c4b0
          try clear c4b1
          try clear c5
          try clear c5b0
          try clear c5b1
          try clear c6
          try clear c6b0
          try clear c6b1
          try clear c7
          try clear c7b0
          try clear c7b1
          try clear c8
          try clear c10
          try clear c10b0
          try clear c10b1
          try clear p2
          obtain ⟨kq, x14_8, rfl, HA, HJ8, ⟨mc8, rfl⟩⟩ := hcut
          cases kq with
          | zero => exact absurd HA.out (by simp [berthref13_kids.j1])
          | succ kj8 =>
            have H := HA.out
            clear HA
            simp only [berthref13_kids.j1] at H
            by_cases c11 : x14_8 = true
            · subst c11
              have H1 : (some (decide (a1 ≥ 2))) = some r := by rw [if_pos rfl] at H; exact H
              clear H
              have H := H1
              clear H1
              obtain rfl := Option.some.inj H
              go_wp2
              go_ret
              exact ⟨by first | rfl | (simp; done) | (simp [*]; done), by repeat (first | exact Drawn0.refl _ | apply Drawn0.step)⟩
            · replace c11 := Bool.eq_false_iff.mpr c11
              subst c11
              have H1 : (if a0 = 6 then (berthref13_kids.j2 kj8 a1 a0 (a0 == 6)) else (berthref13_kids.j2 kj8 a1 a0 (a0 == 7))) = some r := by rw [if_neg (show ¬ (false = true) by decide)] at H; exact H
              clear H
              have H := H1
              clear H1
              have HC12 := Aside0.mk H
              clear H
              go_upto_if 19 with (fail)
              go_cut [19] (fun v19 wc => ∃ (kq : Nat) (x19_11 : Bool), v19 = .bool x19_11 ∧ Aside0 (berthref13_kids.j2 kq a1 a0 x19_11 = some r) ∧ Aside0 (kq ≤ kj8) ∧ Drawn0 w wc)
              case first =>
                have H := HC12.out
                clear HC12
                by_cases c13 : a0 = 6
                · rw [if_pos c13] at H
                  have c13b0 : (a0 == 6) = true := beq_iff_eq.mpr c13
                  have c13b1 : (a0 != 6) = false := bne_eq_false_iff_eq.mpr c13
                  clear c13
                  (first | rw [c13b0] | (simp only [i64_w, i32_w]; rw [c13b0]) | skip)
                  have H' := Aside0.mk H
                  clear H
                  go_wp2
                  go_meet
                  case rel => exact ⟨_, ((a0 == 6)), (by first | rfl | (simp; done) | (simp [*]; done)), H', ⟨by have := HJ2.out; have := HJ8.out; first | omega | exact Nat.le_refl _⟩, by repeat (first | exact Drawn0.refl _ | apply Drawn0.step)⟩
                · rw [if_neg c13] at H
                  have c13b0 : (a0 == 6) = false := beq_eq_false_iff_ne.mpr c13
                  have c13b1 : (a0 != 6) = true := bne_iff_ne.mpr c13
                  (first | rw [c13b0] | (simp only [i64_w, i32_w]; rw [c13b0]) | skip)
                  have H' := Aside0.mk H
                  clear H
                  go_wp2
                  go_meet
                  case rel => exact ⟨_, ((a0 == 7)), (by first | rfl | (simp; done) | (simp [*]; done)), H', ⟨by have := HJ2.out; have := HJ8.out; first | omega | exact Nat.le_refl _⟩, by repeat (first | exact Drawn0.refl _ | apply Drawn0.step)⟩
              case rest =>
                clear HC12
                try clear c1
                try clear c2
                try clear p2
                try clear c4
                try clear c4b0
                try clear c4b1
                try clear c5
                try clear c5b0
                try clear c5b1
                try clear c6
                try clear c6b0
                try clear c6b1
                try clear c7
                try clear c7b0
                try clear c7b1
                try clear c8
                try clear c10
                try clear c10b0
                try clear c10b1
                try clear c11
                try clear c13
                try clear c13b0
                try clear c13b1
                try clear p2
                obtain ⟨kq, x19_11, rfl, HA, HJ11, ⟨mc11, rfl⟩⟩ := hcut
                cases kq with
                | zero => exact absurd HA.out (by simp [berthref13_kids.j2])
                | succ kj11 =>
                  have H := HA.out
                  clear HA
                  simp only [berthref13_kids.j2] at H
                  by_cases c14 : x19_11 = true
                  · subst c14
                    have H1 : (some (a1 == 2)) = some r := by rw [if_pos rfl] at H; exact H
                    clear H
                    have H := H1
                    clear H1
                    obtain rfl := Option.some.inj H
                    go_wp2
                    go_ret
                    exact ⟨by first | rfl | (simp; done) | (simp [*]; done), by repeat (first | exact Drawn0.refl _ | apply Drawn0.step)⟩
                  · replace c14 := Bool.eq_false_iff.mpr c14
                    subst c14
                    have H1 : (if a0 = 13 then (some (decide (a1 ≤ 64))) else (some (a1 == 0))) = some r := by rw [if_neg (show ¬ (false = true) by decide)] at H; exact H
                    clear H
                    have H := H1
                    clear H1
                    by_cases c15 : a0 = 13
                    · rw [if_pos c15] at H
                      have c15b0 : (a0 == 13) = true := beq_iff_eq.mpr c15
                      have c15b1 : (a0 != 13) = false := bne_eq_false_iff_eq.mpr c15
                      clear c15
                      obtain rfl := Option.some.inj H
                      go_wp2
                      go_ret
                      exact ⟨by first | rfl | (simp; done) | (simp [*]; done), by repeat (first | exact Drawn0.refl _ | apply Drawn0.step)⟩
                    · rw [if_neg c15] at H
                      have c15b0 : (a0 == 13) = false := beq_eq_false_iff_ne.mpr c15
                      have c15b1 : (a0 != 13) = true := bne_iff_ne.mpr c15
                      obtain rfl := Option.some.inj H
                      go_wp2
                      go_ret
                      exact ⟨by first | rfl | (simp; done) | (simp [*]; done), by repeat (first | exact Drawn0.refl _ | apply Drawn0.step)⟩

/-! ### berthref13_holds: function 47 -/
mutual
def berthref13_holds.j0 : Nat → Int → Bool → Int → ByteArray → Int → List Int → Option (Bool)
  | 0, _, _, _, _, _, _ => none
  | k + 1, x4, x5, x211000, x211001, x211002, x211003 => if x5 = true then (if (x211001.size : Int) ≤ 127 then (some (x211002 == 0)) else (some false)) else (if x4 = 6 then (if x211001.toList = ([] : List UInt8) then (if x211002 ≥ 1 then (some (decide (x211002 ≤ 6))) else (some false)) else (some false)) else (if x4 = 7 then (if x211001.toList = ([] : List UInt8) then (if x211002 = 0 then (some true) else (some (x211002 == 1))) else (some false)) else (if x4 = 12 then (if x211001.toList = ([] : List UInt8) then (if x211002 ≥ (-999999999999999999) then (some (decide (x211002 ≤ 999999999999999999))) else (some false)) else (some false)) else (if x4 = 14 then (berthref13_holds.j1 k x4 (x4 == 14) x211000 x211001 x211002 x211003) else (berthref13_holds.j1 k x4 (x4 == 18) x211000 x211001 x211002 x211003)))))
def berthref13_holds.j1 : Nat → Int → Bool → Int → ByteArray → Int → List Int → Option (Bool)
  | 0, _, _, _, _, _, _ => none
  | k + 1, x4, x65, x211000, x211001, x211002, x211003 => if x65 = true then (if (x211001.size : Int) ≤ 127 then (if x211002 ≥ 1 then (some (decide (x211002 ≤ 3))) else (some false)) else (some false)) else (if x4 = 15 then (if x211001.toList = ([] : List UInt8) then (if x211002 ≥ 1 then (some (decide (x211002 ≤ 3))) else (some false)) else (some false)) else (if x4 = 16 then (if x211001.toList = ([] : List UInt8) then (if x211002 ≥ 1 then (some (decide (x211002 ≤ 3))) else (some false)) else (some false)) else (if x4 = 17 then (if x211001.toList = ([] : List UInt8) then (if x211002 ≥ 1 then (some (decide (x211002 ≤ 3))) else (some false)) else (some false)) else (if x211001.toList = ([] : List UInt8) then (some (x211002 == 0)) else (some false)))))
end
def berthref13_holds.f (k : Nat) (a0_0 : Int) (a0_1 : ByteArray) (a0_2 : Int) (l0_3 : List Int) : Option (Bool) := if a0_0 = 8 then (berthref13_holds.j0 k a0_0 (a0_0 == 8) a0_0 a0_1 a0_2 l0_3) else (if a0_0 = 9 then (berthref13_holds.j0 k a0_0 (a0_0 == 9) a0_0 a0_1 a0_2 l0_3) else (if a0_0 = 10 then (berthref13_holds.j0 k a0_0 (a0_0 == 10) a0_0 a0_1 a0_2 l0_3) else (if a0_0 = 11 then (berthref13_holds.j0 k a0_0 (a0_0 == 11) a0_0 a0_1 a0_2 l0_3) else (berthref13_holds.j0 k a0_0 (a0_0 == 20) a0_0 a0_1 a0_2 l0_3))))
theorem berthref13_holds.mono_l : ∀ k, (∀ y0 y1 y2 y3 y4 y5, LeO (berthref13_holds.j0 k y0 y1 y2 y3 y4 y5) (berthref13_holds.j0 (k + 1) y0 y1 y2 y3 y4 y5)) ∧ (∀ y0 y1 y2 y3 y4 y5, LeO (berthref13_holds.j1 k y0 y1 y2 y3 y4 y5) (berthref13_holds.j1 (k + 1) y0 y1 y2 y3 y4 y5))
  | 0 => ⟨fun _ _ _ _ _ _ r h => by simp [berthref13_holds.j0] at h, fun _ _ _ _ _ _ r h => by simp [berthref13_holds.j1] at h⟩
  | k + 1 => by
    obtain ⟨ih0, ih1⟩ := berthref13_holds.mono_l k
    refine ⟨?_, ?_⟩
    · intro y0 y1 y2 y3 y4 y5
      unfold berthref13_holds.j0
      repeat' first
      | (with_reducible exact ih0 _ _ _ _ _ _)
      | (with_reducible exact ih1 _ _ _ _ _ _)
      | (with_reducible exact LeO.refl _)
      | (with_reducible exact LeO.none _)
      | (with_reducible refine LeO.ite ?_ ?_)
      | (with_reducible refine LeO.bind ?_ (fun _ => ?_))
      | exact ih0 _ _ _ _ _ _
      | exact ih1 _ _ _ _ _ _
      | exact LeO.none _
      | refine LeO.ite ?_ ?_
      | refine LeO.bind ?_ (fun _ => ?_)
    · intro y0 y1 y2 y3 y4 y5
      unfold berthref13_holds.j1
      repeat' first
      | (with_reducible exact ih0 _ _ _ _ _ _)
      | (with_reducible exact ih1 _ _ _ _ _ _)
      | (with_reducible exact LeO.refl _)
      | (with_reducible exact LeO.none _)
      | (with_reducible refine LeO.ite ?_ ?_)
      | (with_reducible refine LeO.bind ?_ (fun _ => ?_))
      | exact ih0 _ _ _ _ _ _
      | exact ih1 _ _ _ _ _ _
      | exact LeO.none _
      | refine LeO.ite ?_ ?_
      | refine LeO.bind ?_ (fun _ => ?_)
theorem berthref13_holds.mono : ∀ a0 a1 a2 a3 k, LeO (berthref13_holds.f k a0 a1 a2 a3) (berthref13_holds.f (k + 1) a0 a1 a2 a3) := by
  intro a0 a1 a2 a3 k
  obtain ⟨ih0, ih1⟩ := berthref13_holds.mono_l k
  unfold berthref13_holds.f
  repeat' first
      | (with_reducible exact ih0 _ _ _ _ _ _)
      | (with_reducible exact ih1 _ _ _ _ _ _)
      | (with_reducible exact LeO.refl _)
      | (with_reducible exact LeO.none _)
      | (with_reducible refine LeO.ite ?_ ?_)
      | (with_reducible refine LeO.bind ?_ (fun _ => ?_))
      | exact ih0 _ _ _ _ _ _
      | exact ih1 _ _ _ _ _ _
      | exact LeO.none _
      | refine LeO.ite ?_ ?_
      | refine LeO.bind ?_ (fun _ => ?_)
set_option maxHeartbeats 8000000 in
set_option maxRecDepth 100000 in
theorem berthref13_holds.calls (k : Nat) (a0_0 : Int) (a0_1 : ByteArray) (a0_2 : Int) (A0_3 : Option Addr) (c0_3 : Nat) (l0_3 : List Int) (r : Bool) (w : World) (hr0_3 : Kd.C (Kd.int .i64) w A0_3 l0_3.length l0_3) (hc0_3 : l0_3.length ≤ c0_3) (h : berthref13_holds.f k a0_0 a0_1 a0_2 l0_3 = some r) :
    Calls Tryd.prog 47 #[.agg #[.int .i64 a0_0, .string a0_1, .int .i64 a0_2, .slice A0_3 l0_3.length c0_3]] w fun e w' => e = .returned (.bool r) ∧ Below w.heap.size w w' := by
  have hu45 := Tryd.underlying45
  have HR0_3 := Aside0.mk hr0_3
  have HC0_3 := Aside0.mk hc0_3
  clear hr0_3 hc0_3
  have HB := Aside0.mk (Below.refl w.heap.size w)
  have H : (if a0_0 = 8 then (berthref13_holds.j0 k a0_0 (a0_0 == 8) a0_0 a0_1 a0_2 l0_3) else (if a0_0 = 9 then (berthref13_holds.j0 k a0_0 (a0_0 == 9) a0_0 a0_1 a0_2 l0_3) else (if a0_0 = 10 then (berthref13_holds.j0 k a0_0 (a0_0 == 10) a0_0 a0_1 a0_2 l0_3) else (if a0_0 = 11 then (berthref13_holds.j0 k a0_0 (a0_0 == 11) a0_0 a0_1 a0_2 l0_3) else (berthref13_holds.j0 k a0_0 (a0_0 == 20) a0_0 a0_1 a0_2 l0_3))))) = some r := h
  clear h
  have HC2 := Aside0.mk H
  clear H
  go_enter Tryd.func47, Tryd.ntmps47
  go_upto_if 5 with (first | ((with_reducible refine gate_dst (N := 1) rfl ?_); refine box_event ?hg (N := 1) ?hd (cs := #[.int .i64 a0_0, .string a0_1, .int .i64 a0_2, .slice A0_3 l0_3.length c0_3]) (t := 45) ?hr ?_; (case hd => rfl); (case hg => rfl); (case hr => first | (go_simp; done) | (go_simp; rfl)); intro gb210 hg w3 hbox hb; have n0_ := Aside0.mk (below_step (by repeat (first | (with_reducible first | exact HB.out | apply below_alloc | apply pw_below_drewN | apply below_drew1) | exact HB.out)) hb); have n1_ := Aside0.mk (hbox); have n2_ := Aside0.mk ((by rw [hg]; exact (below_size (by repeat (first | (with_reducible first | exact HB.out | apply below_alloc | apply pw_below_drewN | apply below_drew1) | exact HB.out))) : w.heap.size ≤ gb210)); have n3_ := Aside0.mk ((by rw [hg]; exact (below_size (by repeat (first | (with_reducible first | exact HB.out | apply below_alloc | apply pw_below_drewN | apply below_drew1) | exact HB.out))) : w.heap.size ≤ gb210)); clear HB; have HB := n0_; have BK210 := n1_; have GW210 := n2_; have GE210 := n3_; clear n0_ n1_ n2_ n3_; clear hb hbox hg; have hcz4_0 : w3.cell? ⟨gb210, 0, none⟩ = some (.int .i64 a0_0) := (blk_cell BK210.out 0).trans rfl; have hcz4_1 : w3.cell? ⟨gb210, 1, none⟩ = some (.string a0_1) := (blk_cell BK210.out 1).trans rfl; have hcz4_2 : w3.cell? ⟨gb210, 2, none⟩ = some (.int .i64 a0_2) := (blk_cell BK210.out 2).trans rfl; have hcz4_3 : w3.cell? ⟨gb210, 3, none⟩ = some (.slice A0_3 l0_3.length c0_3) := (blk_cell BK210.out 3).trans rfl; have hfz4_0 := blk_frozen BK210.out 0; have hfz4_1 := blk_frozen BK210.out 1; have hfz4_2 := blk_frozen BK210.out 2; have hfz4_3 := blk_frozen BK210.out 3))
  (try simp only [Act.put, List.setIfInBounds_toArray, List.set_cons_zero, List.set_cons_succ])
  go_cut [5] (fun v5 wc => ∃ (kq : Nat) (x5_1 : Bool), v5 = .bool x5_1 ∧ Aside0 (berthref13_holds.j0 kq a0_0 x5_1 a0_0 a0_1 a0_2 l0_3 = some r) ∧ Aside0 (kq ≤ k) ∧ Aside0 (wc.heap[gb210]? = some (.cells #[.int .i64 a0_0, .string a0_1, .int .i64 a0_2, (.slice A0_3 l0_3.length c0_3)] 45 (0, 0))) ∧ Aside0 (Below w.heap.size w wc))
  case first =>
    have H := HC2.out
    clear HC2
    by_cases c5 : a0_0 = 8
    · rw [if_pos c5] at H
      have c5b0 : (a0_0 == 8) = true := beq_iff_eq.mpr c5
      have c5b1 : (a0_0 != 8) = false := bne_eq_false_iff_eq.mpr c5
      clear c5
      (first | rw [c5b0] | (simp only [i64_w, i32_w]; rw [c5b0]) | skip)
      have H' := Aside0.mk H
      clear H
      go_wp2
      go_meet
      case rel => exact ⟨_, ((a0_0 == 8)), (by first | rfl | (simp; done) | (simp [*]; done)), H', ⟨by first | omega | exact Nat.le_refl _⟩, ⟨by (with_reducible repeat (first | refine blk_drewN ?_ _ | refine blk_drew ?_ | refine blk_alloc ?_ _)); exact BK210.out⟩, ⟨by repeat (first | (with_reducible first | exact HB.out | apply below_alloc | apply pw_below_drewN | apply below_drew1 | refine below_set ?_ GE210.out) | exact HB.out)⟩⟩
    · rw [if_neg c5] at H
      have c5b0 : (a0_0 == 8) = false := beq_eq_false_iff_ne.mpr c5
      have c5b1 : (a0_0 != 8) = true := bne_iff_ne.mpr c5
      (first | rw [c5b0] | (simp only [i64_w, i32_w]; rw [c5b0]) | skip)
      by_cases c6 : a0_0 = 9
      · rw [if_pos c6] at H
        have c6b0 : (a0_0 == 9) = true := beq_iff_eq.mpr c6
        have c6b1 : (a0_0 != 9) = false := bne_eq_false_iff_eq.mpr c6
        clear c6
        have H' := Aside0.mk H
        clear H
        go_wp2
        go_meet
        case rel => exact ⟨_, ((a0_0 == 9)), (by first | rfl | (simp; done) | (simp [*]; done)), H', ⟨by first | omega | exact Nat.le_refl _⟩, ⟨by (with_reducible repeat (first | refine blk_drewN ?_ _ | refine blk_drew ?_ | refine blk_alloc ?_ _)); exact BK210.out⟩, ⟨by repeat (first | (with_reducible first | exact HB.out | apply below_alloc | apply pw_below_drewN | apply below_drew1 | refine below_set ?_ GE210.out) | exact HB.out)⟩⟩
      · rw [if_neg c6] at H
        have c6b0 : (a0_0 == 9) = false := beq_eq_false_iff_ne.mpr c6
        have c6b1 : (a0_0 != 9) = true := bne_iff_ne.mpr c6
        by_cases c7 : a0_0 = 10
        · rw [if_pos c7] at H
          have c7b0 : (a0_0 == 10) = true := beq_iff_eq.mpr c7
          have c7b1 : (a0_0 != 10) = false := bne_eq_false_iff_eq.mpr c7
          clear c7
          have H' := Aside0.mk H
          clear H
          go_wp2
          go_meet
          case rel => exact ⟨_, ((a0_0 == 10)), (by first | rfl | (simp; done) | (simp [*]; done)), H', ⟨by first | omega | exact Nat.le_refl _⟩, ⟨by (with_reducible repeat (first | refine blk_drewN ?_ _ | refine blk_drew ?_ | refine blk_alloc ?_ _)); exact BK210.out⟩, ⟨by repeat (first | (with_reducible first | exact HB.out | apply below_alloc | apply pw_below_drewN | apply below_drew1 | refine below_set ?_ GE210.out) | exact HB.out)⟩⟩
        · rw [if_neg c7] at H
          have c7b0 : (a0_0 == 10) = false := beq_eq_false_iff_ne.mpr c7
          have c7b1 : (a0_0 != 10) = true := bne_iff_ne.mpr c7
          by_cases c8 : a0_0 = 11
          · rw [if_pos c8] at H
            have c8b0 : (a0_0 == 11) = true := beq_iff_eq.mpr c8
            have c8b1 : (a0_0 != 11) = false := bne_eq_false_iff_eq.mpr c8
            clear c8
            have H' := Aside0.mk H
            clear H
            go_wp2
            go_meet
            case rel => exact ⟨_, ((a0_0 == 11)), (by first | rfl | (simp; done) | (simp [*]; done)), H', ⟨by first | omega | exact Nat.le_refl _⟩, ⟨by (with_reducible repeat (first | refine blk_drewN ?_ _ | refine blk_drew ?_ | refine blk_alloc ?_ _)); exact BK210.out⟩, ⟨by repeat (first | (with_reducible first | exact HB.out | apply below_alloc | apply pw_below_drewN | apply below_drew1 | refine below_set ?_ GE210.out) | exact HB.out)⟩⟩
          · rw [if_neg c8] at H
            have c8b0 : (a0_0 == 11) = false := beq_eq_false_iff_ne.mpr c8
            have c8b1 : (a0_0 != 11) = true := bne_iff_ne.mpr c8
            have H' := Aside0.mk H
            clear H
            go_wp2
            go_meet
            case rel => exact ⟨_, ((a0_0 == 20)), (by first | rfl | (simp; done) | (simp [*]; done)), H', ⟨by first | omega | exact Nat.le_refl _⟩, ⟨by (with_reducible repeat (first | refine blk_drewN ?_ _ | refine blk_drew ?_ | refine blk_alloc ?_ _)); exact BK210.out⟩, ⟨by repeat (first | (with_reducible first | exact HB.out | apply below_alloc | apply pw_below_drewN | apply below_drew1 | refine below_set ?_ GE210.out) | exact HB.out)⟩⟩
  case rest =>
    clear HC2
    try clear p2
    try clear c4
    try clear c5
    try clear c5b0
    try clear c5b1
    try clear c6
    try clear c6b0
    try clear c6b1
    try clear c7
    try clear c7b0
    try clear c7b1
    try clear c8
    try clear c8b0
    try clear c8b1
    try clear hcz4_0
    try clear hcz4_1
    try clear hcz4_2
    try clear hcz4_3
    try clear hfz4_0
    try clear hfz4_1
    try clear hfz4_2
    try clear hfz4_3
    obtain ⟨kq, x5_1, rfl, HA, HJ1, BK210, HB⟩ := hcut
    cases kq with
    | zero => exact absurd HA.out (by simp [berthref13_holds.j0])
    | succ kj1 =>
      have H := HA.out
      clear HA
      simp only [berthref13_holds.j0] at H
      by_cases c9 : x5_1 = true
      · subst c9
        have H1 : (if (a0_1.size : Int) ≤ 127 then (some (a0_2 == 0)) else (some false)) = some r := by rw [if_pos rfl] at H; exact H
        clear H
        have H := H1
        clear H1
        by_cases c10 : (a0_1.size : Int) ≤ 127
        · rw [if_pos c10] at H
          have c10b0 : decide ((a0_1.size : Int) ≤ 127) = true := decide_eq_true c10
          have c10b1 : decide (a0_1.size ≤ 127) = true := decide_eq_true (by omega)
          clear c10
          obtain rfl := Option.some.inj H
          have hcz11_0 : wc.cell? ⟨gb210, 0, none⟩ = some (.int .i64 a0_0) := (blk_cell BK210.out 0).trans rfl
          have hcz11_1 : wc.cell? ⟨gb210, 1, none⟩ = some (.string a0_1) := (blk_cell BK210.out 1).trans rfl
          have hcz11_2 : wc.cell? ⟨gb210, 2, none⟩ = some (.int .i64 a0_2) := (blk_cell BK210.out 2).trans rfl
          have hcz11_3 : wc.cell? ⟨gb210, 3, none⟩ = some (.slice A0_3 l0_3.length c0_3) := (blk_cell BK210.out 3).trans rfl
          have hfz11_0 := blk_frozen BK210.out 0
          have hfz11_1 := blk_frozen BK210.out 1
          have hfz11_2 := blk_frozen BK210.out 2
          have hfz11_3 := blk_frozen BK210.out 3
          go_wp2
          go_ret
          exact ⟨by first | rfl | (simp [errW_none, errW_some] <;> rfl) | (simp [*, errW_none, errW_some] <;> rfl), by repeat (first | (with_reducible first | exact HB.out | apply below_alloc | apply pw_below_drewN | apply below_drew1 | refine below_set ?_ GE210.out) | exact HB.out)⟩
        · rw [if_neg c10] at H
          have c10b0 : decide ((a0_1.size : Int) ≤ 127) = false := decide_eq_false c10
          have c10b1 : decide (a0_1.size ≤ 127) = false := decide_eq_false (by omega)
          clear c10
          obtain rfl := Option.some.inj H
          have hcz12_0 : wc.cell? ⟨gb210, 0, none⟩ = some (.int .i64 a0_0) := (blk_cell BK210.out 0).trans rfl
          have hcz12_1 : wc.cell? ⟨gb210, 1, none⟩ = some (.string a0_1) := (blk_cell BK210.out 1).trans rfl
          have hcz12_2 : wc.cell? ⟨gb210, 2, none⟩ = some (.int .i64 a0_2) := (blk_cell BK210.out 2).trans rfl
          have hcz12_3 : wc.cell? ⟨gb210, 3, none⟩ = some (.slice A0_3 l0_3.length c0_3) := (blk_cell BK210.out 3).trans rfl
          have hfz12_0 := blk_frozen BK210.out 0
          have hfz12_1 := blk_frozen BK210.out 1
          have hfz12_2 := blk_frozen BK210.out 2
          have hfz12_3 := blk_frozen BK210.out 3
          go_wp2
          go_ret
          exact ⟨by first | rfl | (simp [errW_none, errW_some] <;> rfl) | (simp [*, errW_none, errW_some] <;> rfl), by repeat (first | (with_reducible first | exact HB.out | apply below_alloc | apply pw_below_drewN | apply below_drew1 | refine below_set ?_ GE210.out) | exact HB.out)⟩
      · replace c9 := Bool.eq_false_iff.mpr c9
        subst c9
        have H1 : (if a0_0 = 6 then (if a0_1.toList = ([] : List UInt8) then (if a0_2 ≥ 1 then (some (decide (a0_2 ≤ 6))) else (some false)) else (some false)) else (if a0_0 = 7 then (if a0_1.toList = ([] : List UInt8) then (if a0_2 = 0 then (some true) else (some (a0_2 == 1))) else (some false)) else (if a0_0 = 12 then (if a0_1.toList = ([] : List UInt8) then (if a0_2 ≥ (-999999999999999999) then (some (decide (a0_2 ≤ 999999999999999999))) else (some false)) else (some false)) else (if a0_0 = 14 then (berthref13_holds.j1 kj1 a0_0 (a0_0 == 14) a0_0 a0_1 a0_2 l0_3) else (berthref13_holds.j1 kj1 a0_0 (a0_0 == 18) a0_0 a0_1 a0_2 l0_3))))) = some r := by rw [if_neg (show ¬ (false = true) by decide)] at H; exact H
        clear H
        have H := H1
        clear H1
        by_cases c13 : a0_0 = 6
        · rw [if_pos c13] at H
          have c13b0 : (a0_0 == 6) = true := beq_iff_eq.mpr c13
          have c13b1 : (a0_0 != 6) = false := bne_eq_false_iff_eq.mpr c13
          clear c13
          by_cases c14 : a0_1.toList = ([] : List UInt8)
          · rw [if_pos c14] at H
            have c14b0 : (a0_1.toList == ([] : List UInt8)) = true := beq_iff_eq.mpr c14
            have c14b1 : (a0_1.toList != ([] : List UInt8)) = false := bne_eq_false_iff_eq.mpr c14
            clear c14
            by_cases c15 : a0_2 ≥ 1
            · rw [if_pos c15] at H
              have c15b0 : decide (1 ≤ a0_2) = true := decide_eq_true c15
              clear c15
              obtain rfl := Option.some.inj H
              have hcz16_0 : wc.cell? ⟨gb210, 0, none⟩ = some (.int .i64 a0_0) := (blk_cell BK210.out 0).trans rfl
              have hcz16_1 : wc.cell? ⟨gb210, 1, none⟩ = some (.string a0_1) := (blk_cell BK210.out 1).trans rfl
              have hcz16_2 : wc.cell? ⟨gb210, 2, none⟩ = some (.int .i64 a0_2) := (blk_cell BK210.out 2).trans rfl
              have hcz16_3 : wc.cell? ⟨gb210, 3, none⟩ = some (.slice A0_3 l0_3.length c0_3) := (blk_cell BK210.out 3).trans rfl
              have hfz16_0 := blk_frozen BK210.out 0
              have hfz16_1 := blk_frozen BK210.out 1
              have hfz16_2 := blk_frozen BK210.out 2
              have hfz16_3 := blk_frozen BK210.out 3
              go_wp2
              go_ret
              exact ⟨by first | rfl | (simp [errW_none, errW_some] <;> rfl) | (simp [*, errW_none, errW_some] <;> rfl), by repeat (first | (with_reducible first | exact HB.out | apply below_alloc | apply pw_below_drewN | apply below_drew1 | refine below_set ?_ GE210.out) | exact HB.out)⟩
            · rw [if_neg c15] at H
              have c15b0 : decide (1 ≤ a0_2) = false := decide_eq_false c15
              clear c15
              obtain rfl := Option.some.inj H
              have hcz17_0 : wc.cell? ⟨gb210, 0, none⟩ = some (.int .i64 a0_0) := (blk_cell BK210.out 0).trans rfl
              have hcz17_1 : wc.cell? ⟨gb210, 1, none⟩ = some (.string a0_1) := (blk_cell BK210.out 1).trans rfl
              have hcz17_2 : wc.cell? ⟨gb210, 2, none⟩ = some (.int .i64 a0_2) := (blk_cell BK210.out 2).trans rfl
              have hcz17_3 : wc.cell? ⟨gb210, 3, none⟩ = some (.slice A0_3 l0_3.length c0_3) := (blk_cell BK210.out 3).trans rfl
              have hfz17_0 := blk_frozen BK210.out 0
              have hfz17_1 := blk_frozen BK210.out 1
              have hfz17_2 := blk_frozen BK210.out 2
              have hfz17_3 := blk_frozen BK210.out 3
              go_wp2
              go_ret
              exact ⟨by first | rfl | (simp [errW_none, errW_some] <;> rfl) | (simp [*, errW_none, errW_some] <;> rfl), by repeat (first | (with_reducible first | exact HB.out | apply below_alloc | apply pw_below_drewN | apply below_drew1 | refine below_set ?_ GE210.out) | exact HB.out)⟩
          · rw [if_neg c14] at H
            have c14b0 : (a0_1.toList == ([] : List UInt8)) = false := beq_eq_false_iff_ne.mpr c14
            have c14b1 : (a0_1.toList != ([] : List UInt8)) = true := bne_iff_ne.mpr c14
            obtain rfl := Option.some.inj H
            have hcz18_0 : wc.cell? ⟨gb210, 0, none⟩ = some (.int .i64 a0_0) := (blk_cell BK210.out 0).trans rfl
            have hcz18_1 : wc.cell? ⟨gb210, 1, none⟩ = some (.string a0_1) := (blk_cell BK210.out 1).trans rfl
            have hcz18_2 : wc.cell? ⟨gb210, 2, none⟩ = some (.int .i64 a0_2) := (blk_cell BK210.out 2).trans rfl
            have hcz18_3 : wc.cell? ⟨gb210, 3, none⟩ = some (.slice A0_3 l0_3.length c0_3) := (blk_cell BK210.out 3).trans rfl
            have hfz18_0 := blk_frozen BK210.out 0
            have hfz18_1 := blk_frozen BK210.out 1
            have hfz18_2 := blk_frozen BK210.out 2
            have hfz18_3 := blk_frozen BK210.out 3
            go_wp2
            go_ret
            exact ⟨by first | rfl | (simp [errW_none, errW_some] <;> rfl) | (simp [*, errW_none, errW_some] <;> rfl), by repeat (first | (with_reducible first | exact HB.out | apply below_alloc | apply pw_below_drewN | apply below_drew1 | refine below_set ?_ GE210.out) | exact HB.out)⟩
        · rw [if_neg c13] at H
          have c13b0 : (a0_0 == 6) = false := beq_eq_false_iff_ne.mpr c13
          have c13b1 : (a0_0 != 6) = true := bne_iff_ne.mpr c13
          by_cases c19 : a0_0 = 7
          · rw [if_pos c19] at H
            have c19b0 : (a0_0 == 7) = true := beq_iff_eq.mpr c19
            have c19b1 : (a0_0 != 7) = false := bne_eq_false_iff_eq.mpr c19
            clear c19
            by_cases c20 : a0_1.toList = ([] : List UInt8)
            · rw [if_pos c20] at H
              have c20b0 : (a0_1.toList == ([] : List UInt8)) = true := beq_iff_eq.mpr c20
              have c20b1 : (a0_1.toList != ([] : List UInt8)) = false := bne_eq_false_iff_eq.mpr c20
              clear c20
              by_cases c21 : a0_2 = 0
              · rw [if_pos c21] at H
                have c21b0 : (a0_2 == 0) = true := beq_iff_eq.mpr c21
                have c21b1 : (a0_2 != 0) = false := bne_eq_false_iff_eq.mpr c21
                clear c21
                obtain rfl := Option.some.inj H
                have hcz22_0 : wc.cell? ⟨gb210, 0, none⟩ = some (.int .i64 a0_0) := (blk_cell BK210.out 0).trans rfl
                have hcz22_1 : wc.cell? ⟨gb210, 1, none⟩ = some (.string a0_1) := (blk_cell BK210.out 1).trans rfl
                have hcz22_2 : wc.cell? ⟨gb210, 2, none⟩ = some (.int .i64 a0_2) := (blk_cell BK210.out 2).trans rfl
                have hcz22_3 : wc.cell? ⟨gb210, 3, none⟩ = some (.slice A0_3 l0_3.length c0_3) := (blk_cell BK210.out 3).trans rfl
                have hfz22_0 := blk_frozen BK210.out 0
                have hfz22_1 := blk_frozen BK210.out 1
                have hfz22_2 := blk_frozen BK210.out 2
                have hfz22_3 := blk_frozen BK210.out 3
                go_wp2
                go_ret
                exact ⟨by first | rfl | (simp [errW_none, errW_some] <;> rfl) | (simp [*, errW_none, errW_some] <;> rfl), by repeat (first | (with_reducible first | exact HB.out | apply below_alloc | apply pw_below_drewN | apply below_drew1 | refine below_set ?_ GE210.out) | exact HB.out)⟩
              · rw [if_neg c21] at H
                have c21b0 : (a0_2 == 0) = false := beq_eq_false_iff_ne.mpr c21
                have c21b1 : (a0_2 != 0) = true := bne_iff_ne.mpr c21
                obtain rfl := Option.some.inj H
                have hcz23_0 : wc.cell? ⟨gb210, 0, none⟩ = some (.int .i64 a0_0) := (blk_cell BK210.out 0).trans rfl
                have hcz23_1 : wc.cell? ⟨gb210, 1, none⟩ = some (.string a0_1) := (blk_cell BK210.out 1).trans rfl
                have hcz23_2 : wc.cell? ⟨gb210, 2, none⟩ = some (.int .i64 a0_2) := (blk_cell BK210.out 2).trans rfl
                have hcz23_3 : wc.cell? ⟨gb210, 3, none⟩ = some (.slice A0_3 l0_3.length c0_3) := (blk_cell BK210.out 3).trans rfl
                have hfz23_0 := blk_frozen BK210.out 0
                have hfz23_1 := blk_frozen BK210.out 1
                have hfz23_2 := blk_frozen BK210.out 2
                have hfz23_3 := blk_frozen BK210.out 3
                go_wp2
                go_ret
                exact ⟨by first | rfl | (simp [errW_none, errW_some] <;> rfl) | (simp [*, errW_none, errW_some] <;> rfl), by repeat (first | (with_reducible first | exact HB.out | apply below_alloc | apply pw_below_drewN | apply below_drew1 | refine below_set ?_ GE210.out) | exact HB.out)⟩
            · rw [if_neg c20] at H
              have c20b0 : (a0_1.toList == ([] : List UInt8)) = false := beq_eq_false_iff_ne.mpr c20
              have c20b1 : (a0_1.toList != ([] : List UInt8)) = true := bne_iff_ne.mpr c20
              obtain rfl := Option.some.inj H
              have hcz24_0 : wc.cell? ⟨gb210, 0, none⟩ = some (.int .i64 a0_0) := (blk_cell BK210.out 0).trans rfl
              have hcz24_1 : wc.cell? ⟨gb210, 1, none⟩ = some (.string a0_1) := (blk_cell BK210.out 1).trans rfl
              have hcz24_2 : wc.cell? ⟨gb210, 2, none⟩ = some (.int .i64 a0_2) := (blk_cell BK210.out 2).trans rfl
              have hcz24_3 : wc.cell? ⟨gb210, 3, none⟩ = some (.slice A0_3 l0_3.length c0_3) := (blk_cell BK210.out 3).trans rfl
              have hfz24_0 := blk_frozen BK210.out 0
              have hfz24_1 := blk_frozen BK210.out 1
              have hfz24_2 := blk_frozen BK210.out 2
              have hfz24_3 := blk_frozen BK210.out 3
              go_wp2
              go_ret
              exact ⟨by first | rfl | (simp [errW_none, errW_some] <;> rfl) | (simp [*, errW_none, errW_some] <;> rfl), by repeat (first | (with_reducible first | exact HB.out | apply below_alloc | apply pw_below_drewN | apply below_drew1 | refine below_set ?_ GE210.out) | exact HB.out)⟩
          · rw [if_neg c19] at H
            have c19b0 : (a0_0 == 7) = false := beq_eq_false_iff_ne.mpr c19
            have c19b1 : (a0_0 != 7) = true := bne_iff_ne.mpr c19
            by_cases c25 : a0_0 = 12
            · rw [if_pos c25] at H
              have c25b0 : (a0_0 == 12) = true := beq_iff_eq.mpr c25
              have c25b1 : (a0_0 != 12) = false := bne_eq_false_iff_eq.mpr c25
              clear c25
              by_cases c26 : a0_1.toList = ([] : List UInt8)
              · rw [if_pos c26] at H
                have c26b0 : (a0_1.toList == ([] : List UInt8)) = true := beq_iff_eq.mpr c26
                have c26b1 : (a0_1.toList != ([] : List UInt8)) = false := bne_eq_false_iff_eq.mpr c26
                clear c26
                by_cases c27 : a0_2 ≥ (-999999999999999999)
                · rw [if_pos c27] at H
                  have c27b0 : decide ((-999999999999999999) ≤ a0_2) = true := decide_eq_true c27
                  clear c27
                  obtain rfl := Option.some.inj H
                  have hcz28_0 : wc.cell? ⟨gb210, 0, none⟩ = some (.int .i64 a0_0) := (blk_cell BK210.out 0).trans rfl
                  have hcz28_1 : wc.cell? ⟨gb210, 1, none⟩ = some (.string a0_1) := (blk_cell BK210.out 1).trans rfl
                  have hcz28_2 : wc.cell? ⟨gb210, 2, none⟩ = some (.int .i64 a0_2) := (blk_cell BK210.out 2).trans rfl
                  have hcz28_3 : wc.cell? ⟨gb210, 3, none⟩ = some (.slice A0_3 l0_3.length c0_3) := (blk_cell BK210.out 3).trans rfl
                  have hfz28_0 := blk_frozen BK210.out 0
                  have hfz28_1 := blk_frozen BK210.out 1
                  have hfz28_2 := blk_frozen BK210.out 2
                  have hfz28_3 := blk_frozen BK210.out 3
                  go_wp2
                  go_ret
                  exact ⟨by first | rfl | (simp [errW_none, errW_some] <;> rfl) | (simp [*, errW_none, errW_some] <;> rfl), by repeat (first | (with_reducible first | exact HB.out | apply below_alloc | apply pw_below_drewN | apply below_drew1 | refine below_set ?_ GE210.out) | exact HB.out)⟩
                · rw [if_neg c27] at H
                  have c27b0 : decide ((-999999999999999999) ≤ a0_2) = false := decide_eq_false c27
                  clear c27
                  obtain rfl := Option.some.inj H
                  have hcz29_0 : wc.cell? ⟨gb210, 0, none⟩ = some (.int .i64 a0_0) := (blk_cell BK210.out 0).trans rfl
                  have hcz29_1 : wc.cell? ⟨gb210, 1, none⟩ = some (.string a0_1) := (blk_cell BK210.out 1).trans rfl
                  have hcz29_2 : wc.cell? ⟨gb210, 2, none⟩ = some (.int .i64 a0_2) := (blk_cell BK210.out 2).trans rfl
                  have hcz29_3 : wc.cell? ⟨gb210, 3, none⟩ = some (.slice A0_3 l0_3.length c0_3) := (blk_cell BK210.out 3).trans rfl
                  have hfz29_0 := blk_frozen BK210.out 0
                  have hfz29_1 := blk_frozen BK210.out 1
                  have hfz29_2 := blk_frozen BK210.out 2
                  have hfz29_3 := blk_frozen BK210.out 3
                  go_wp2
                  go_ret
                  exact ⟨by first | rfl | (simp [errW_none, errW_some] <;> rfl) | (simp [*, errW_none, errW_some] <;> rfl), by repeat (first | (with_reducible first | exact HB.out | apply below_alloc | apply pw_below_drewN | apply below_drew1 | refine below_set ?_ GE210.out) | exact HB.out)⟩
              · rw [if_neg c26] at H
                have c26b0 : (a0_1.toList == ([] : List UInt8)) = false := beq_eq_false_iff_ne.mpr c26
                have c26b1 : (a0_1.toList != ([] : List UInt8)) = true := bne_iff_ne.mpr c26
                obtain rfl := Option.some.inj H
                have hcz30_0 : wc.cell? ⟨gb210, 0, none⟩ = some (.int .i64 a0_0) := (blk_cell BK210.out 0).trans rfl
                have hcz30_1 : wc.cell? ⟨gb210, 1, none⟩ = some (.string a0_1) := (blk_cell BK210.out 1).trans rfl
                have hcz30_2 : wc.cell? ⟨gb210, 2, none⟩ = some (.int .i64 a0_2) := (blk_cell BK210.out 2).trans rfl
                have hcz30_3 : wc.cell? ⟨gb210, 3, none⟩ = some (.slice A0_3 l0_3.length c0_3) := (blk_cell BK210.out 3).trans rfl
                have hfz30_0 := blk_frozen BK210.out 0
                have hfz30_1 := blk_frozen BK210.out 1
                have hfz30_2 := blk_frozen BK210.out 2
                have hfz30_3 := blk_frozen BK210.out 3
                go_wp2
                go_ret
                exact ⟨by first | rfl | (simp [errW_none, errW_some] <;> rfl) | (simp [*, errW_none, errW_some] <;> rfl), by repeat (first | (with_reducible first | exact HB.out | apply below_alloc | apply pw_below_drewN | apply below_drew1 | refine below_set ?_ GE210.out) | exact HB.out)⟩
            · rw [if_neg c25] at H
              have c25b0 : (a0_0 == 12) = false := beq_eq_false_iff_ne.mpr c25
              have c25b1 : (a0_0 != 12) = true := bne_iff_ne.mpr c25
              have HC31 := Aside0.mk H
              clear H
              go_upto_if 65 with (fail)
              go_cut [65] (fun v65 wc => ∃ (kq : Nat) (x65_30 : Bool), v65 = .bool x65_30 ∧ Aside0 (berthref13_holds.j1 kq a0_0 x65_30 a0_0 a0_1 a0_2 l0_3 = some r) ∧ Aside0 (kq ≤ kj1) ∧ Aside0 (wc.heap[gb210]? = some (.cells #[.int .i64 a0_0, .string a0_1, .int .i64 a0_2, (.slice A0_3 l0_3.length c0_3)] 45 (0, 0))) ∧ Aside0 (Below w.heap.size w wc))
              case first =>
                have H := HC31.out
                clear HC31
                by_cases c32 : a0_0 = 14
                · rw [if_pos c32] at H
                  have c32b0 : (a0_0 == 14) = true := beq_iff_eq.mpr c32
                  have c32b1 : (a0_0 != 14) = false := bne_eq_false_iff_eq.mpr c32
                  clear c32
                  (first | rw [c32b0] | (simp only [i64_w, i32_w]; rw [c32b0]) | skip)
                  have H' := Aside0.mk H
                  clear H
                  go_wp2
                  go_meet
                  case rel => exact ⟨_, ((a0_0 == 14)), (by first | rfl | (simp; done) | (simp [*]; done)), H', ⟨by have := HJ1.out; first | omega | exact Nat.le_refl _⟩, ⟨by (with_reducible repeat (first | refine blk_drewN ?_ _ | refine blk_drew ?_ | refine blk_alloc ?_ _)); exact BK210.out⟩, ⟨by repeat (first | (with_reducible first | exact HB.out | apply below_alloc | apply pw_below_drewN | apply below_drew1 | refine below_set ?_ GE210.out) | exact HB.out)⟩⟩
                · rw [if_neg c32] at H
                  have c32b0 : (a0_0 == 14) = false := beq_eq_false_iff_ne.mpr c32
                  have c32b1 : (a0_0 != 14) = true := bne_iff_ne.mpr c32
                  (first | rw [c32b0] | (simp only [i64_w, i32_w]; rw [c32b0]) | skip)
                  have H' := Aside0.mk H
                  clear H
                  go_wp2
                  go_meet
                  case rel => exact ⟨_, ((a0_0 == 18)), (by first | rfl | (simp; done) | (simp [*]; done)), H', ⟨by have := HJ1.out; first | omega | exact Nat.le_refl _⟩, ⟨by (with_reducible repeat (first | refine blk_drewN ?_ _ | refine blk_drew ?_ | refine blk_alloc ?_ _)); exact BK210.out⟩, ⟨by repeat (first | (with_reducible first | exact HB.out | apply below_alloc | apply pw_below_drewN | apply below_drew1 | refine below_set ?_ GE210.out) | exact HB.out)⟩⟩
              case rest =>
                clear HC31
                try clear c1
                try clear c2
                try clear p2
                try clear c3
                try clear c4
                try clear c5
                try clear c5b0
                try clear c5b1
                try clear c6
                try clear c6b0
                try clear c6b1
                try clear c7
                try clear c7b0
                try clear c7b1
                try clear c8
                try clear c8b0
                try clear c8b1
                try clear c9
                try clear c10
                try clear c10b0
                try clear c10b1
                try clear c13
                try clear c13b0
                try clear c13b1
                try clear c14
                try clear c14b0
                try clear c14b1
                try clear c15
                try clear c15b0
                try clear c19
                try clear c19b0
                try clear c19b1
                try clear c20
                try clear c20b0
                try clear c20b1
                try clear c21
                try clear c21b0
                try clear c21b1
                try clear c25
                try clear c25b0
                try clear c25b1
                try clear c26
                try clear c26b0
                try clear c26b1
                try clear c27
                try clear c27b0
                try clear c32
                try clear c32b0
                try clear c32b1
                try clear hcz11_0
                try clear hcz11_1
                try clear hcz11_2
                try clear hcz11_3
                try clear hcz12_0
                try clear hcz12_1
                try clear hcz12_2
                try clear hcz12_3
                try clear hcz16_0
                try clear hcz16_1
                try clear hcz16_2
                try clear hcz16_3
                try clear hcz17_0
                try clear hcz17_1
                try clear hcz17_2
                try clear hcz17_3
                try clear hcz18_0
                try clear hcz18_1
                try clear hcz18_2
                try clear hcz18_3
                try clear hcz22_0
                try clear hcz22_1
                try clear hcz22_2
                try clear hcz22_3
                try clear hcz23_0
                try clear hcz23_1
                try clear hcz23_2
                try clear hcz23_3
                try clear hcz24_0
                try clear hcz24_1
                try clear hcz24_2
                try clear hcz24_3
                try clear hcz28_0
                try clear hcz28_1
                try clear hcz28_2
                try clear hcz28_3
                try clear hcz29_0
                try clear hcz29_1
                try clear hcz29_2
                try clear hcz29_3
                try clear hcz30_0
                try clear hcz30_1
                try clear hcz30_2
                try clear hcz30_3
                try clear hcz4_0
                try clear hcz4_1
                try clear hcz4_2
                try clear hcz4_3
                try clear hfz11_0
                try clear hfz11_1
                try clear hfz11_2
                try clear hfz11_3
                try clear hfz12_0
                try clear hfz12_1
                try clear hfz12_2
                try clear hfz12_3
                try clear hfz16_0
                try clear hfz16_1
                try clear hfz16_2
                try clear hfz16_3
                try clear hfz17_0
                try clear hfz17_1
                try clear hfz17_2
                try clear hfz17_3
                try clear hfz18_0
                try clear hfz18_1
                try clear hfz18_2
                try clear hfz18_3
                try clear hfz22_0
                try clear hfz22_1
                try clear hfz22_2
                try clear hfz22_3
                try clear hfz23_0
                try clear hfz23_1
                try clear hfz23_2
                try clear hfz23_3
                try clear hfz24_0
                try clear hfz24_1
                try clear hfz24_2
                try clear hfz24_3
                try clear hfz28_0
                try clear hfz28_1
                try clear hfz28_2
                try clear hfz28_3
                try clear hfz29_0
                try clear hfz29_1
                try clear hfz29_2
                try clear hfz29_3
                try clear hfz30_0
                try clear hfz30_1
                try clear hfz30_2
                try clear hfz30_3
                try clear hfz4_0
                try clear hfz4_1
                try clear hfz4_2
                try clear hfz4_3
                try clear p2
                obtain ⟨kq, x65_30, rfl, HA, HJ30, BK210, HB⟩ := hcut
                cases kq with
                | zero => exact absurd HA.out (by simp [berthref13_holds.j1])
                | succ kj30 =>
                  have H := HA.out
                  clear HA
                  simp only [berthref13_holds.j1] at H
                  by_cases c33 : x65_30 = true
                  · subst c33
                    have H1 : (if (a0_1.size : Int) ≤ 127 then (if a0_2 ≥ 1 then (some (decide (a0_2 ≤ 3))) else (some false)) else (some false)) = some r := by rw [if_pos rfl] at H; exact H
                    clear H
                    have H := H1
                    clear H1
                    by_cases c34 : (a0_1.size : Int) ≤ 127
                    · rw [if_pos c34] at H
                      have c34b0 : decide ((a0_1.size : Int) ≤ 127) = true := decide_eq_true c34
                      have c34b1 : decide (a0_1.size ≤ 127) = true := decide_eq_true (by omega)
                      clear c34
                      by_cases c35 : a0_2 ≥ 1
                      · rw [if_pos c35] at H
                        have c35b0 : decide (1 ≤ a0_2) = true := decide_eq_true c35
                        clear c35
                        obtain rfl := Option.some.inj H
                        have hcz36_0 : wc.cell? ⟨gb210, 0, none⟩ = some (.int .i64 a0_0) := (blk_cell BK210.out 0).trans rfl
                        have hcz36_1 : wc.cell? ⟨gb210, 1, none⟩ = some (.string a0_1) := (blk_cell BK210.out 1).trans rfl
                        have hcz36_2 : wc.cell? ⟨gb210, 2, none⟩ = some (.int .i64 a0_2) := (blk_cell BK210.out 2).trans rfl
                        have hcz36_3 : wc.cell? ⟨gb210, 3, none⟩ = some (.slice A0_3 l0_3.length c0_3) := (blk_cell BK210.out 3).trans rfl
                        have hfz36_0 := blk_frozen BK210.out 0
                        have hfz36_1 := blk_frozen BK210.out 1
                        have hfz36_2 := blk_frozen BK210.out 2
                        have hfz36_3 := blk_frozen BK210.out 3
                        go_wp2
                        go_ret
                        exact ⟨by first | rfl | (simp [errW_none, errW_some] <;> rfl) | (simp [*, errW_none, errW_some] <;> rfl), by repeat (first | (with_reducible first | exact HB.out | apply below_alloc | apply pw_below_drewN | apply below_drew1 | refine below_set ?_ GE210.out) | exact HB.out)⟩
                      · rw [if_neg c35] at H
                        have c35b0 : decide (1 ≤ a0_2) = false := decide_eq_false c35
                        clear c35
                        obtain rfl := Option.some.inj H
                        have hcz37_0 : wc.cell? ⟨gb210, 0, none⟩ = some (.int .i64 a0_0) := (blk_cell BK210.out 0).trans rfl
                        have hcz37_1 : wc.cell? ⟨gb210, 1, none⟩ = some (.string a0_1) := (blk_cell BK210.out 1).trans rfl
                        have hcz37_2 : wc.cell? ⟨gb210, 2, none⟩ = some (.int .i64 a0_2) := (blk_cell BK210.out 2).trans rfl
                        have hcz37_3 : wc.cell? ⟨gb210, 3, none⟩ = some (.slice A0_3 l0_3.length c0_3) := (blk_cell BK210.out 3).trans rfl
                        have hfz37_0 := blk_frozen BK210.out 0
                        have hfz37_1 := blk_frozen BK210.out 1
                        have hfz37_2 := blk_frozen BK210.out 2
                        have hfz37_3 := blk_frozen BK210.out 3
                        go_wp2
                        go_ret
                        exact ⟨by first | rfl | (simp [errW_none, errW_some] <;> rfl) | (simp [*, errW_none, errW_some] <;> rfl), by repeat (first | (with_reducible first | exact HB.out | apply below_alloc | apply pw_below_drewN | apply below_drew1 | refine below_set ?_ GE210.out) | exact HB.out)⟩
                    · rw [if_neg c34] at H
                      have c34b0 : decide ((a0_1.size : Int) ≤ 127) = false := decide_eq_false c34
                      have c34b1 : decide (a0_1.size ≤ 127) = false := decide_eq_false (by omega)
                      clear c34
                      obtain rfl := Option.some.inj H
                      have hcz38_0 : wc.cell? ⟨gb210, 0, none⟩ = some (.int .i64 a0_0) := (blk_cell BK210.out 0).trans rfl
                      have hcz38_1 : wc.cell? ⟨gb210, 1, none⟩ = some (.string a0_1) := (blk_cell BK210.out 1).trans rfl
                      have hcz38_2 : wc.cell? ⟨gb210, 2, none⟩ = some (.int .i64 a0_2) := (blk_cell BK210.out 2).trans rfl
                      have hcz38_3 : wc.cell? ⟨gb210, 3, none⟩ = some (.slice A0_3 l0_3.length c0_3) := (blk_cell BK210.out 3).trans rfl
                      have hfz38_0 := blk_frozen BK210.out 0
                      have hfz38_1 := blk_frozen BK210.out 1
                      have hfz38_2 := blk_frozen BK210.out 2
                      have hfz38_3 := blk_frozen BK210.out 3
                      go_wp2
                      go_ret
                      exact ⟨by first | rfl | (simp [errW_none, errW_some] <;> rfl) | (simp [*, errW_none, errW_some] <;> rfl), by repeat (first | (with_reducible first | exact HB.out | apply below_alloc | apply pw_below_drewN | apply below_drew1 | refine below_set ?_ GE210.out) | exact HB.out)⟩
                  · replace c33 := Bool.eq_false_iff.mpr c33
                    subst c33
                    have H1 : (if a0_0 = 15 then (if a0_1.toList = ([] : List UInt8) then (if a0_2 ≥ 1 then (some (decide (a0_2 ≤ 3))) else (some false)) else (some false)) else (if a0_0 = 16 then (if a0_1.toList = ([] : List UInt8) then (if a0_2 ≥ 1 then (some (decide (a0_2 ≤ 3))) else (some false)) else (some false)) else (if a0_0 = 17 then (if a0_1.toList = ([] : List UInt8) then (if a0_2 ≥ 1 then (some (decide (a0_2 ≤ 3))) else (some false)) else (some false)) else (if a0_1.toList = ([] : List UInt8) then (some (a0_2 == 0)) else (some false))))) = some r := by rw [if_neg (show ¬ (false = true) by decide)] at H; exact H
                    clear H
                    have H := H1
                    clear H1
                    by_cases c39 : a0_0 = 15
                    · rw [if_pos c39] at H
                      have c39b0 : (a0_0 == 15) = true := beq_iff_eq.mpr c39
                      have c39b1 : (a0_0 != 15) = false := bne_eq_false_iff_eq.mpr c39
                      clear c39
                      by_cases c40 : a0_1.toList = ([] : List UInt8)
                      · rw [if_pos c40] at H
                        have c40b0 : (a0_1.toList == ([] : List UInt8)) = true := beq_iff_eq.mpr c40
                        have c40b1 : (a0_1.toList != ([] : List UInt8)) = false := bne_eq_false_iff_eq.mpr c40
                        clear c40
                        by_cases c41 : a0_2 ≥ 1
                        · rw [if_pos c41] at H
                          have c41b0 : decide (1 ≤ a0_2) = true := decide_eq_true c41
                          clear c41
                          obtain rfl := Option.some.inj H
                          have hcz42_0 : wc.cell? ⟨gb210, 0, none⟩ = some (.int .i64 a0_0) := (blk_cell BK210.out 0).trans rfl
                          have hcz42_1 : wc.cell? ⟨gb210, 1, none⟩ = some (.string a0_1) := (blk_cell BK210.out 1).trans rfl
                          have hcz42_2 : wc.cell? ⟨gb210, 2, none⟩ = some (.int .i64 a0_2) := (blk_cell BK210.out 2).trans rfl
                          have hcz42_3 : wc.cell? ⟨gb210, 3, none⟩ = some (.slice A0_3 l0_3.length c0_3) := (blk_cell BK210.out 3).trans rfl
                          have hfz42_0 := blk_frozen BK210.out 0
                          have hfz42_1 := blk_frozen BK210.out 1
                          have hfz42_2 := blk_frozen BK210.out 2
                          have hfz42_3 := blk_frozen BK210.out 3
                          go_wp2
                          go_ret
                          exact ⟨by first | rfl | (simp [errW_none, errW_some] <;> rfl) | (simp [*, errW_none, errW_some] <;> rfl), by repeat (first | (with_reducible first | exact HB.out | apply below_alloc | apply pw_below_drewN | apply below_drew1 | refine below_set ?_ GE210.out) | exact HB.out)⟩
                        · rw [if_neg c41] at H
                          have c41b0 : decide (1 ≤ a0_2) = false := decide_eq_false c41
                          clear c41
                          obtain rfl := Option.some.inj H
                          have hcz43_0 : wc.cell? ⟨gb210, 0, none⟩ = some (.int .i64 a0_0) := (blk_cell BK210.out 0).trans rfl
                          have hcz43_1 : wc.cell? ⟨gb210, 1, none⟩ = some (.string a0_1) := (blk_cell BK210.out 1).trans rfl
                          have hcz43_2 : wc.cell? ⟨gb210, 2, none⟩ = some (.int .i64 a0_2) := (blk_cell BK210.out 2).trans rfl
                          have hcz43_3 : wc.cell? ⟨gb210, 3, none⟩ = some (.slice A0_3 l0_3.length c0_3) := (blk_cell BK210.out 3).trans rfl
                          have hfz43_0 := blk_frozen BK210.out 0
                          have hfz43_1 := blk_frozen BK210.out 1
                          have hfz43_2 := blk_frozen BK210.out 2
                          have hfz43_3 := blk_frozen BK210.out 3
                          go_wp2
                          go_ret
                          exact ⟨by first | rfl | (simp [errW_none, errW_some] <;> rfl) | (simp [*, errW_none, errW_some] <;> rfl), by repeat (first | (with_reducible first | exact HB.out | apply below_alloc | apply pw_below_drewN | apply below_drew1 | refine below_set ?_ GE210.out) | exact HB.out)⟩
                      · rw [if_neg c40] at H
                        have c40b0 : (a0_1.toList == ([] : List UInt8)) = false := beq_eq_false_iff_ne.mpr c40
                        have c40b1 : (a0_1.toList != ([] : List UInt8)) = true := bne_iff_ne.mpr c40
                        obtain rfl := Option.some.inj H
                        have hcz44_0 : wc.cell? ⟨gb210, 0, none⟩ = some (.int .i64 a0_0) := (blk_cell BK210.out 0).trans rfl
                        have hcz44_1 : wc.cell? ⟨gb210, 1, none⟩ = some (.string a0_1) := (blk_cell BK210.out 1).trans rfl
                        have hcz44_2 : wc.cell? ⟨gb210, 2, none⟩ = some (.int .i64 a0_2) := (blk_cell BK210.out 2).trans rfl
                        have hcz44_3 : wc.cell? ⟨gb210, 3, none⟩ = some (.slice A0_3 l0_3.length c0_3) := (blk_cell BK210.out 3).trans rfl
                        have hfz44_0 := blk_frozen BK210.out 0
                        have hfz44_1 := blk_frozen BK210.out 1
                        have hfz44_2 := blk_frozen BK210.out 2
                        have hfz44_3 := blk_frozen BK210.out 3
                        go_wp2
                        go_ret
                        exact ⟨by first | rfl | (simp [errW_none, errW_some] <;> rfl) | (simp [*, errW_none, errW_some] <;> rfl), by repeat (first | (with_reducible first | exact HB.out | apply below_alloc | apply pw_below_drewN | apply below_drew1 | refine below_set ?_ GE210.out) | exact HB.out)⟩
                    · rw [if_neg c39] at H
                      have c39b0 : (a0_0 == 15) = false := beq_eq_false_iff_ne.mpr c39
                      have c39b1 : (a0_0 != 15) = true := bne_iff_ne.mpr c39
                      by_cases c45 : a0_0 = 16
                      · rw [if_pos c45] at H
                        have c45b0 : (a0_0 == 16) = true := beq_iff_eq.mpr c45
                        have c45b1 : (a0_0 != 16) = false := bne_eq_false_iff_eq.mpr c45
                        clear c45
                        by_cases c46 : a0_1.toList = ([] : List UInt8)
                        · rw [if_pos c46] at H
                          have c46b0 : (a0_1.toList == ([] : List UInt8)) = true := beq_iff_eq.mpr c46
                          have c46b1 : (a0_1.toList != ([] : List UInt8)) = false := bne_eq_false_iff_eq.mpr c46
                          clear c46
                          by_cases c47 : a0_2 ≥ 1
                          · rw [if_pos c47] at H
                            have c47b0 : decide (1 ≤ a0_2) = true := decide_eq_true c47
                            clear c47
                            obtain rfl := Option.some.inj H
                            have hcz48_0 : wc.cell? ⟨gb210, 0, none⟩ = some (.int .i64 a0_0) := (blk_cell BK210.out 0).trans rfl
                            have hcz48_1 : wc.cell? ⟨gb210, 1, none⟩ = some (.string a0_1) := (blk_cell BK210.out 1).trans rfl
                            have hcz48_2 : wc.cell? ⟨gb210, 2, none⟩ = some (.int .i64 a0_2) := (blk_cell BK210.out 2).trans rfl
                            have hcz48_3 : wc.cell? ⟨gb210, 3, none⟩ = some (.slice A0_3 l0_3.length c0_3) := (blk_cell BK210.out 3).trans rfl
                            have hfz48_0 := blk_frozen BK210.out 0
                            have hfz48_1 := blk_frozen BK210.out 1
                            have hfz48_2 := blk_frozen BK210.out 2
                            have hfz48_3 := blk_frozen BK210.out 3
                            go_wp2
                            go_ret
                            exact ⟨by first | rfl | (simp [errW_none, errW_some] <;> rfl) | (simp [*, errW_none, errW_some] <;> rfl), by repeat (first | (with_reducible first | exact HB.out | apply below_alloc | apply pw_below_drewN | apply below_drew1 | refine below_set ?_ GE210.out) | exact HB.out)⟩
                          · rw [if_neg c47] at H
                            have c47b0 : decide (1 ≤ a0_2) = false := decide_eq_false c47
                            clear c47
                            obtain rfl := Option.some.inj H
                            have hcz49_0 : wc.cell? ⟨gb210, 0, none⟩ = some (.int .i64 a0_0) := (blk_cell BK210.out 0).trans rfl
                            have hcz49_1 : wc.cell? ⟨gb210, 1, none⟩ = some (.string a0_1) := (blk_cell BK210.out 1).trans rfl
                            have hcz49_2 : wc.cell? ⟨gb210, 2, none⟩ = some (.int .i64 a0_2) := (blk_cell BK210.out 2).trans rfl
                            have hcz49_3 : wc.cell? ⟨gb210, 3, none⟩ = some (.slice A0_3 l0_3.length c0_3) := (blk_cell BK210.out 3).trans rfl
                            have hfz49_0 := blk_frozen BK210.out 0
                            have hfz49_1 := blk_frozen BK210.out 1
                            have hfz49_2 := blk_frozen BK210.out 2
                            have hfz49_3 := blk_frozen BK210.out 3
                            go_wp2
                            go_ret
                            exact ⟨by first | rfl | (simp [errW_none, errW_some] <;> rfl) | (simp [*, errW_none, errW_some] <;> rfl), by repeat (first | (with_reducible first | exact HB.out | apply below_alloc | apply pw_below_drewN | apply below_drew1 | refine below_set ?_ GE210.out) | exact HB.out)⟩
                        · rw [if_neg c46] at H
                          have c46b0 : (a0_1.toList == ([] : List UInt8)) = false := beq_eq_false_iff_ne.mpr c46
                          have c46b1 : (a0_1.toList != ([] : List UInt8)) = true := bne_iff_ne.mpr c46
                          obtain rfl := Option.some.inj H
                          have hcz50_0 : wc.cell? ⟨gb210, 0, none⟩ = some (.int .i64 a0_0) := (blk_cell BK210.out 0).trans rfl
                          have hcz50_1 : wc.cell? ⟨gb210, 1, none⟩ = some (.string a0_1) := (blk_cell BK210.out 1).trans rfl
                          have hcz50_2 : wc.cell? ⟨gb210, 2, none⟩ = some (.int .i64 a0_2) := (blk_cell BK210.out 2).trans rfl
                          have hcz50_3 : wc.cell? ⟨gb210, 3, none⟩ = some (.slice A0_3 l0_3.length c0_3) := (blk_cell BK210.out 3).trans rfl
                          have hfz50_0 := blk_frozen BK210.out 0
                          have hfz50_1 := blk_frozen BK210.out 1
                          have hfz50_2 := blk_frozen BK210.out 2
                          have hfz50_3 := blk_frozen BK210.out 3
                          go_wp2
                          go_ret
                          exact ⟨by first | rfl | (simp [errW_none, errW_some] <;> rfl) | (simp [*, errW_none, errW_some] <;> rfl), by repeat (first | (with_reducible first | exact HB.out | apply below_alloc | apply pw_below_drewN | apply below_drew1 | refine below_set ?_ GE210.out) | exact HB.out)⟩
                      · rw [if_neg c45] at H
                        have c45b0 : (a0_0 == 16) = false := beq_eq_false_iff_ne.mpr c45
                        have c45b1 : (a0_0 != 16) = true := bne_iff_ne.mpr c45
                        by_cases c51 : a0_0 = 17
                        · rw [if_pos c51] at H
                          have c51b0 : (a0_0 == 17) = true := beq_iff_eq.mpr c51
                          have c51b1 : (a0_0 != 17) = false := bne_eq_false_iff_eq.mpr c51
                          clear c51
                          by_cases c52 : a0_1.toList = ([] : List UInt8)
                          · rw [if_pos c52] at H
                            have c52b0 : (a0_1.toList == ([] : List UInt8)) = true := beq_iff_eq.mpr c52
                            have c52b1 : (a0_1.toList != ([] : List UInt8)) = false := bne_eq_false_iff_eq.mpr c52
                            clear c52
                            by_cases c53 : a0_2 ≥ 1
                            · rw [if_pos c53] at H
                              have c53b0 : decide (1 ≤ a0_2) = true := decide_eq_true c53
                              clear c53
                              obtain rfl := Option.some.inj H
                              have hcz54_0 : wc.cell? ⟨gb210, 0, none⟩ = some (.int .i64 a0_0) := (blk_cell BK210.out 0).trans rfl
                              have hcz54_1 : wc.cell? ⟨gb210, 1, none⟩ = some (.string a0_1) := (blk_cell BK210.out 1).trans rfl
                              have hcz54_2 : wc.cell? ⟨gb210, 2, none⟩ = some (.int .i64 a0_2) := (blk_cell BK210.out 2).trans rfl
                              have hcz54_3 : wc.cell? ⟨gb210, 3, none⟩ = some (.slice A0_3 l0_3.length c0_3) := (blk_cell BK210.out 3).trans rfl
                              have hfz54_0 := blk_frozen BK210.out 0
                              have hfz54_1 := blk_frozen BK210.out 1
                              have hfz54_2 := blk_frozen BK210.out 2
                              have hfz54_3 := blk_frozen BK210.out 3
                              go_wp2
                              go_ret
                              exact ⟨by first | rfl | (simp [errW_none, errW_some] <;> rfl) | (simp [*, errW_none, errW_some] <;> rfl), by repeat (first | (with_reducible first | exact HB.out | apply below_alloc | apply pw_below_drewN | apply below_drew1 | refine below_set ?_ GE210.out) | exact HB.out)⟩
                            · rw [if_neg c53] at H
                              have c53b0 : decide (1 ≤ a0_2) = false := decide_eq_false c53
                              clear c53
                              obtain rfl := Option.some.inj H
                              have hcz55_0 : wc.cell? ⟨gb210, 0, none⟩ = some (.int .i64 a0_0) := (blk_cell BK210.out 0).trans rfl
                              have hcz55_1 : wc.cell? ⟨gb210, 1, none⟩ = some (.string a0_1) := (blk_cell BK210.out 1).trans rfl
                              have hcz55_2 : wc.cell? ⟨gb210, 2, none⟩ = some (.int .i64 a0_2) := (blk_cell BK210.out 2).trans rfl
                              have hcz55_3 : wc.cell? ⟨gb210, 3, none⟩ = some (.slice A0_3 l0_3.length c0_3) := (blk_cell BK210.out 3).trans rfl
                              have hfz55_0 := blk_frozen BK210.out 0
                              have hfz55_1 := blk_frozen BK210.out 1
                              have hfz55_2 := blk_frozen BK210.out 2
                              have hfz55_3 := blk_frozen BK210.out 3
                              go_wp2
                              go_ret
                              exact ⟨by first | rfl | (simp [errW_none, errW_some] <;> rfl) | (simp [*, errW_none, errW_some] <;> rfl), by repeat (first | (with_reducible first | exact HB.out | apply below_alloc | apply pw_below_drewN | apply below_drew1 | refine below_set ?_ GE210.out) | exact HB.out)⟩
                          · rw [if_neg c52] at H
                            have c52b0 : (a0_1.toList == ([] : List UInt8)) = false := beq_eq_false_iff_ne.mpr c52
                            have c52b1 : (a0_1.toList != ([] : List UInt8)) = true := bne_iff_ne.mpr c52
                            obtain rfl := Option.some.inj H
                            have hcz56_0 : wc.cell? ⟨gb210, 0, none⟩ = some (.int .i64 a0_0) := (blk_cell BK210.out 0).trans rfl
                            have hcz56_1 : wc.cell? ⟨gb210, 1, none⟩ = some (.string a0_1) := (blk_cell BK210.out 1).trans rfl
                            have hcz56_2 : wc.cell? ⟨gb210, 2, none⟩ = some (.int .i64 a0_2) := (blk_cell BK210.out 2).trans rfl
                            have hcz56_3 : wc.cell? ⟨gb210, 3, none⟩ = some (.slice A0_3 l0_3.length c0_3) := (blk_cell BK210.out 3).trans rfl
                            have hfz56_0 := blk_frozen BK210.out 0
                            have hfz56_1 := blk_frozen BK210.out 1
                            have hfz56_2 := blk_frozen BK210.out 2
                            have hfz56_3 := blk_frozen BK210.out 3
                            go_wp2
                            go_ret
                            exact ⟨by first | rfl | (simp [errW_none, errW_some] <;> rfl) | (simp [*, errW_none, errW_some] <;> rfl), by repeat (first | (with_reducible first | exact HB.out | apply below_alloc | apply pw_below_drewN | apply below_drew1 | refine below_set ?_ GE210.out) | exact HB.out)⟩
                        · rw [if_neg c51] at H
                          have c51b0 : (a0_0 == 17) = false := beq_eq_false_iff_ne.mpr c51
                          have c51b1 : (a0_0 != 17) = true := bne_iff_ne.mpr c51
                          by_cases c57 : a0_1.toList = ([] : List UInt8)
                          · rw [if_pos c57] at H
                            have c57b0 : (a0_1.toList == ([] : List UInt8)) = true := beq_iff_eq.mpr c57
                            have c57b1 : (a0_1.toList != ([] : List UInt8)) = false := bne_eq_false_iff_eq.mpr c57
                            clear c57
                            obtain rfl := Option.some.inj H
                            have hcz58_0 : wc.cell? ⟨gb210, 0, none⟩ = some (.int .i64 a0_0) := (blk_cell BK210.out 0).trans rfl
                            have hcz58_1 : wc.cell? ⟨gb210, 1, none⟩ = some (.string a0_1) := (blk_cell BK210.out 1).trans rfl
                            have hcz58_2 : wc.cell? ⟨gb210, 2, none⟩ = some (.int .i64 a0_2) := (blk_cell BK210.out 2).trans rfl
                            have hcz58_3 : wc.cell? ⟨gb210, 3, none⟩ = some (.slice A0_3 l0_3.length c0_3) := (blk_cell BK210.out 3).trans rfl
                            have hfz58_0 := blk_frozen BK210.out 0
                            have hfz58_1 := blk_frozen BK210.out 1
                            have hfz58_2 := blk_frozen BK210.out 2
                            have hfz58_3 := blk_frozen BK210.out 3
                            go_wp2
                            go_ret
                            exact ⟨by first | rfl | (simp [errW_none, errW_some] <;> rfl) | (simp [*, errW_none, errW_some] <;> rfl), by repeat (first | (with_reducible first | exact HB.out | apply below_alloc | apply pw_below_drewN | apply below_drew1 | refine below_set ?_ GE210.out) | exact HB.out)⟩
                          · rw [if_neg c57] at H
                            have c57b0 : (a0_1.toList == ([] : List UInt8)) = false := beq_eq_false_iff_ne.mpr c57
                            have c57b1 : (a0_1.toList != ([] : List UInt8)) = true := bne_iff_ne.mpr c57
                            obtain rfl := Option.some.inj H
                            have hcz59_0 : wc.cell? ⟨gb210, 0, none⟩ = some (.int .i64 a0_0) := (blk_cell BK210.out 0).trans rfl
                            have hcz59_1 : wc.cell? ⟨gb210, 1, none⟩ = some (.string a0_1) := (blk_cell BK210.out 1).trans rfl
                            have hcz59_2 : wc.cell? ⟨gb210, 2, none⟩ = some (.int .i64 a0_2) := (blk_cell BK210.out 2).trans rfl
                            have hcz59_3 : wc.cell? ⟨gb210, 3, none⟩ = some (.slice A0_3 l0_3.length c0_3) := (blk_cell BK210.out 3).trans rfl
                            have hfz59_0 := blk_frozen BK210.out 0
                            have hfz59_1 := blk_frozen BK210.out 1
                            have hfz59_2 := blk_frozen BK210.out 2
                            have hfz59_3 := blk_frozen BK210.out 3
                            go_wp2
                            go_ret
                            exact ⟨by first | rfl | (simp [errW_none, errW_some] <;> rfl) | (simp [*, errW_none, errW_some] <;> rfl), by repeat (first | (with_reducible first | exact HB.out | apply below_alloc | apply pw_below_drewN | apply below_drew1 | refine below_set ?_ GE210.out) | exact HB.out)⟩

/-! ### berthref13_Condition: function 31 -/
def berthref13_Condition.f (a0 : Int) : Option (Bool) := if a0 ≥ 1 then (some (decide (a0 ≤ 10))) else (some false)
set_option maxHeartbeats 8000000 in
set_option maxRecDepth 100000 in
theorem berthref13_Condition.calls (a0 : Int) (r : Bool) (w : World) (h : berthref13_Condition.f a0 = some r) :
    Calls Tryd.prog 31 #[.int .i64 a0] w fun e w' => e = .returned (.bool r) ∧ Drawn0 w w' := by
  have H : (if a0 ≥ 1 then (some (decide (a0 ≤ 10))) else (some false)) = some r := h
  clear h
  by_cases c2 : a0 ≥ 1
  · rw [if_pos c2] at H
    have c2b0 : decide (1 ≤ a0) = true := decide_eq_true c2
    clear c2
    obtain rfl := Option.some.inj H
    go_enter Tryd.func31, Tryd.ntmps31
    go_wp2
    go_ret
    exact ⟨by first | rfl | (simp; done) | (simp [*]; done), by repeat (first | exact Drawn0.refl _ | apply Drawn0.step)⟩
  · rw [if_neg c2] at H
    have c2b0 : decide (1 ≤ a0) = false := decide_eq_false c2
    clear c2
    obtain rfl := Option.some.inj H
    go_enter Tryd.func31, Tryd.ntmps31
    go_wp2
    go_ret
    exact ⟨by first | rfl | (simp; done) | (simp [*]; done), by repeat (first | exact Drawn0.refl _ | apply Drawn0.step)⟩

/-! ### berthref13_term: function 59 -/
def berthref13_term.f (a0 : Int) : Option (Bool) := if a0 ≥ 11 then (some (decide (a0 ≤ 20))) else (some false)
set_option maxHeartbeats 8000000 in
set_option maxRecDepth 100000 in
theorem berthref13_term.calls (a0 : Int) (r : Bool) (w : World) (h : berthref13_term.f a0 = some r) :
    Calls Tryd.prog 59 #[.int .i64 a0] w fun e w' => e = .returned (.bool r) ∧ Drawn0 w w' := by
  have H : (if a0 ≥ 11 then (some (decide (a0 ≤ 20))) else (some false)) = some r := h
  clear h
  by_cases c2 : a0 ≥ 11
  · rw [if_pos c2] at H
    have c2b0 : decide (11 ≤ a0) = true := decide_eq_true c2
    clear c2
    obtain rfl := Option.some.inj H
    go_enter Tryd.func59, Tryd.ntmps59
    go_wp2
    go_ret
    exact ⟨by first | rfl | (simp; done) | (simp [*]; done), by repeat (first | exact Drawn0.refl _ | apply Drawn0.step)⟩
  · rw [if_neg c2] at H
    have c2b0 : decide (11 ≤ a0) = false := decide_eq_false c2
    clear c2
    obtain rfl := Option.some.inj H
    go_enter Tryd.func59, Tryd.ntmps59
    go_wp2
    go_ret
    exact ⟨by first | rfl | (simp; done) | (simp [*]; done), by repeat (first | exact Drawn0.refl _ | apply Drawn0.step)⟩

/-! ### berthref13_class: function 48 -/
def berthref13_class.j0 : Nat → Int → Int → Bool → Option (Bool)
  | 0, _, _, _ => none
  | k + 1, x1, x5, x6 => if x6 = true then ((berthref13_term.f x1).bind fun t211 => (some t211)) else (if x5 = 13 then (if x1 = 11 then (some true) else (some (x1 == 12))) else ((berthref13_Condition.f x1).bind fun t212 => (some t212)))
def berthref13_class.f (k : Nat) (a0 : Int) (a1 : Int) : Option (Bool) := if a0 = 6 then (berthref13_class.j0 k a1 a0 (a0 == 6)) else (if a0 = 7 then (berthref13_class.j0 k a1 a0 (a0 == 7)) else (berthref13_class.j0 k a1 a0 (a0 == 19)))
theorem berthref13_class.mono_l : ∀ k, (∀ y0 y1 y2, LeO (berthref13_class.j0 k y0 y1 y2) (berthref13_class.j0 (k + 1) y0 y1 y2))
  | 0 => fun _ _ _ r h => by simp [berthref13_class.j0] at h
  | k + 1 => by
    have ih0 := berthref13_class.mono_l k
    · intro y0 y1 y2
      unfold berthref13_class.j0
      repeat' first
      | (with_reducible exact ih0 _ _ _)
      | (with_reducible exact LeO.refl _)
      | (with_reducible exact LeO.none _)
      | (with_reducible refine LeO.ite ?_ ?_)
      | (with_reducible refine LeO.bind ?_ (fun _ => ?_))
      | exact ih0 _ _ _
      | exact LeO.none _
      | refine LeO.ite ?_ ?_
      | refine LeO.bind ?_ (fun _ => ?_)
theorem berthref13_class.mono : ∀ a0 a1 k, LeO (berthref13_class.f k a0 a1) (berthref13_class.f (k + 1) a0 a1) := by
  intro a0 a1 k
  have ih0 := berthref13_class.mono_l k
  unfold berthref13_class.f
  repeat' first
      | (with_reducible exact ih0 _ _ _)
      | (with_reducible exact LeO.refl _)
      | (with_reducible exact LeO.none _)
      | (with_reducible refine LeO.ite ?_ ?_)
      | (with_reducible refine LeO.bind ?_ (fun _ => ?_))
      | exact ih0 _ _ _
      | exact LeO.none _
      | refine LeO.ite ?_ ?_
      | refine LeO.bind ?_ (fun _ => ?_)
set_option maxHeartbeats 8000000 in
set_option maxRecDepth 100000 in
theorem berthref13_class.calls (k : Nat) (a0 : Int) (a1 : Int) (r : Bool) (w : World) (h : berthref13_class.f k a0 a1 = some r) :
    Calls Tryd.prog 48 #[.int .i64 a0, .int .i64 a1] w fun e w' => e = .returned (.bool r) ∧ Drawn0 w w' := by
  have H : (if a0 = 6 then (berthref13_class.j0 k a1 a0 (a0 == 6)) else (if a0 = 7 then (berthref13_class.j0 k a1 a0 (a0 == 7)) else (berthref13_class.j0 k a1 a0 (a0 == 19)))) = some r := h
  clear h
  have HC3 := Aside0.mk H
  clear H
  go_enter Tryd.func48, Tryd.ntmps48
  go_upto_if 6 with (fail)
  go_cut [6] (fun v6 wc => ∃ (kq : Nat) (x6_2 : Bool), v6 = .bool x6_2 ∧ Aside0 (berthref13_class.j0 kq a1 a0 x6_2 = some r) ∧ Aside0 (kq ≤ k) ∧ Drawn0 w wc)
  case first =>
    have H := HC3.out
    clear HC3
    by_cases c4 : a0 = 6
    · rw [if_pos c4] at H
      have c4b0 : (a0 == 6) = true := beq_iff_eq.mpr c4
      have c4b1 : (a0 != 6) = false := bne_eq_false_iff_eq.mpr c4
      clear c4
      (first | rw [c4b0] | (simp only [i64_w, i32_w]; rw [c4b0]) | skip)
      have H' := Aside0.mk H
      clear H
      go_wp2
      go_meet
      case rel => exact ⟨_, ((a0 == 6)), (by first | rfl | (simp; done) | (simp [*]; done)), H', ⟨by first | omega | exact Nat.le_refl _⟩, by repeat (first | exact Drawn0.refl _ | apply Drawn0.step)⟩
    · rw [if_neg c4] at H
      have c4b0 : (a0 == 6) = false := beq_eq_false_iff_ne.mpr c4
      have c4b1 : (a0 != 6) = true := bne_iff_ne.mpr c4
      (first | rw [c4b0] | (simp only [i64_w, i32_w]; rw [c4b0]) | skip)
      by_cases c5 : a0 = 7
      · rw [if_pos c5] at H
        have c5b0 : (a0 == 7) = true := beq_iff_eq.mpr c5
        have c5b1 : (a0 != 7) = false := bne_eq_false_iff_eq.mpr c5
        clear c5
        have H' := Aside0.mk H
        clear H
        go_wp2
        go_meet
        case rel => exact ⟨_, ((a0 == 7)), (by first | rfl | (simp; done) | (simp [*]; done)), H', ⟨by first | omega | exact Nat.le_refl _⟩, by repeat (first | exact Drawn0.refl _ | apply Drawn0.step)⟩
      · rw [if_neg c5] at H
        have c5b0 : (a0 == 7) = false := beq_eq_false_iff_ne.mpr c5
        have c5b1 : (a0 != 7) = true := bne_iff_ne.mpr c5
        have H' := Aside0.mk H
        clear H
        go_wp2
        go_meet
        case rel => exact ⟨_, ((a0 == 19)), (by first | rfl | (simp; done) | (simp [*]; done)), H', ⟨by first | omega | exact Nat.le_refl _⟩, by repeat (first | exact Drawn0.refl _ | apply Drawn0.step)⟩
  case rest =>
    clear HC3
    try clear p2
    try clear c4
    try clear c4b0
    try clear c4b1
    try clear c5
    try clear c5b0
    try clear c5b1
    obtain ⟨kq, x6_2, rfl, HA, HJ2, ⟨mc2, rfl⟩⟩ := hcut
    cases kq with
    | zero => exact absurd HA.out (by simp [berthref13_class.j0])
    | succ kj2 =>
      have H := HA.out
      clear HA
      simp only [berthref13_class.j0] at H
      by_cases c6 : x6_2 = true
      · subst c6
        have H1 : ((berthref13_term.f a1).bind fun t211 => (some t211)) = some r := by rw [if_pos rfl] at H; exact H
        clear H
        have H := H1
        clear H1
        replace H := Option.bind_eq_some_iff.mp H
        obtain ⟨t211, A70, H⟩ := H
        replace H : (some t211) = some r := H
        have A7 := Aside0.mk A70
        clear A70
        obtain rfl := Option.some.inj H
        go_wp2_with (first | ((with_reducible refine gate_callee (f := 59) rfl ?_); refine goesL_ (some 11) rfl rfl Tryd.func59 (by kernel_rfl) rfl #[.int .i64 a1] rfl (by (try simp only [List.map_toArray, List.map_cons, List.map_nil]); first | done | rfl | (simp only [List.length_drop, List.length_take]; rfl)) ?_; (with_reducible refine (berthref13_term.calls a1 t211 _ A7.out).mono ?_); rintro e w' ⟨rfl, ⟨nd, rfl⟩⟩; refine ⟨_, rfl, ?_⟩))
        go_ret
        exact ⟨by first | rfl | (simp; done) | (simp [*]; done), by repeat (first | exact Drawn0.refl _ | apply Drawn0.step)⟩
      · replace c6 := Bool.eq_false_iff.mpr c6
        subst c6
        have H1 : (if a0 = 13 then (if a1 = 11 then (some true) else (some (a1 == 12))) else ((berthref13_Condition.f a1).bind fun t212 => (some t212))) = some r := by rw [if_neg (show ¬ (false = true) by decide)] at H; exact H
        clear H
        have H := H1
        clear H1
        by_cases c8 : a0 = 13
        · rw [if_pos c8] at H
          have c8b0 : (a0 == 13) = true := beq_iff_eq.mpr c8
          have c8b1 : (a0 != 13) = false := bne_eq_false_iff_eq.mpr c8
          clear c8
          by_cases c9 : a1 = 11
          · rw [if_pos c9] at H
            have c9b0 : (a1 == 11) = true := beq_iff_eq.mpr c9
            have c9b1 : (a1 != 11) = false := bne_eq_false_iff_eq.mpr c9
            clear c9
            obtain rfl := Option.some.inj H
            go_wp2
            go_ret
            exact ⟨by first | rfl | (simp; done) | (simp [*]; done), by repeat (first | exact Drawn0.refl _ | apply Drawn0.step)⟩
          · rw [if_neg c9] at H
            have c9b0 : (a1 == 11) = false := beq_eq_false_iff_ne.mpr c9
            have c9b1 : (a1 != 11) = true := bne_iff_ne.mpr c9
            obtain rfl := Option.some.inj H
            go_wp2
            go_ret
            exact ⟨by first | rfl | (simp; done) | (simp [*]; done), by repeat (first | exact Drawn0.refl _ | apply Drawn0.step)⟩
        · rw [if_neg c8] at H
          have c8b0 : (a0 == 13) = false := beq_eq_false_iff_ne.mpr c8
          have c8b1 : (a0 != 13) = true := bne_iff_ne.mpr c8
          replace H := Option.bind_eq_some_iff.mp H
          obtain ⟨t212, A100, H⟩ := H
          replace H : (some t212) = some r := H
          have A10 := Aside0.mk A100
          clear A100
          obtain rfl := Option.some.inj H
          go_wp2_with (first | ((with_reducible refine gate_callee (f := 31) rfl ?_); refine goesL_ (some 21) rfl rfl Tryd.func31 (by kernel_rfl) rfl #[.int .i64 a1] rfl (by (try simp only [List.map_toArray, List.map_cons, List.map_nil]); first | done | rfl | (simp only [List.length_drop, List.length_take]; rfl)) ?_; (with_reducible refine (berthref13_Condition.calls a1 t212 _ A10.out).mono ?_); rintro e w' ⟨rfl, ⟨nd, rfl⟩⟩; refine ⟨_, rfl, ?_⟩))
          go_ret
          exact ⟨by first | rfl | (simp; done) | (simp [*]; done), by repeat (first | exact Drawn0.refl _ | apply Drawn0.step)⟩

/-! ### berthref13_part: function 30 -/
mutual
def berthref13_part.j0 : Nat → List Int → Int → Bool → List (S45) → Int → ByteArray → Int → List Int → Option (Bool)
  | 0, _, _, _, _, _, _, _, _ => none
  | k + 1, x2, x8, x41, x214000, x216000, x216001, x216002, x216003 => if x41 = true then (some false) else ((berthref13_holds.f k x216000 x216001 x216002 x216003).bind fun t217 => (if t217 = true then (berthref13_part.l0 k x2 x8 (wrap64 ((x2.length : Int) - (x216003.length : Int))) 0 x214000 x216000 x216001 x216002 x216003) else (some false)))
def berthref13_part.l0 : Nat → List Int → Int → Int → Int → List (S45) → Int → ByteArray → Int → List Int → Option (Bool)
  | 0, _, _, _, _, _, _, _, _, _ => none
  | k + 1, x2, x8, x10, x11, x214000, x216000, x216001, x216002, x216003 => if x11 < (x216003.length : Int) then (if 0 ≤ x11 then (if 0 ≤ (wrap64 (x10 + x11)) then (if (wrap64 (x10 + x11)) < (x2.length : Int) then (if (rd x216003 x11) = (rd x2 (wrap64 (x10 + x11))) then (if 0 ≤ (rd x216003 x11) then (if (rd x216003 x11) < (x214000.length : Int) then ((berthref13_class.f k x8 ((rd_T45 x214000 (rd x216003 x11)).f0)).bind fun t222 => (if t222 = true then (berthref13_part.l0 k x2 x8 x10 (wrap64 (x11 + 1)) x214000 x216000 x216001 x216002 x216003) else (some false))) else (none)) else (none)) else (some false)) else (none)) else (none)) else (none)) else (some true)
end
def berthref13_part.f (k : Nat) (l0_0 : List (S45)) (a1 : Int) (l2 : List Int) : Option (Bool) := if 0 ≤ a1 then (if a1 < (l0_0.length : Int) then ((berthref13_kids.f k ((rd_T45 l0_0 a1).f0) (((rd_T45 l0_0 a1).f3).length : Int)).bind fun t216 => (if t216 = true then (if ((rd_T45 l0_0 a1).f0) < 1 then (berthref13_part.j0 k l2 ((rd_T45 l0_0 a1).f0) true l0_0 ((rd_T45 l0_0 a1).f0) ((rd_T45 l0_0 a1).f1) ((rd_T45 l0_0 a1).f2) ((rd_T45 l0_0 a1).f3)) else (if ((rd_T45 l0_0 a1).f0) > 20 then (berthref13_part.j0 k l2 ((rd_T45 l0_0 a1).f0) true l0_0 ((rd_T45 l0_0 a1).f0) ((rd_T45 l0_0 a1).f1) ((rd_T45 l0_0 a1).f2) ((rd_T45 l0_0 a1).f3)) else (berthref13_part.j0 k l2 ((rd_T45 l0_0 a1).f0) (decide ((((rd_T45 l0_0 a1).f3).length : Int) > (l2.length : Int))) l0_0 ((rd_T45 l0_0 a1).f0) ((rd_T45 l0_0 a1).f1) ((rd_T45 l0_0 a1).f2) ((rd_T45 l0_0 a1).f3)))) else (berthref13_part.j0 k l2 ((rd_T45 l0_0 a1).f0) true l0_0 ((rd_T45 l0_0 a1).f0) ((rd_T45 l0_0 a1).f1) ((rd_T45 l0_0 a1).f2) ((rd_T45 l0_0 a1).f3)))) else (none)) else (none)
theorem berthref13_part.mono_l : ∀ k, (∀ y0 y1 y2 y3 y4 y5 y6 y7, LeO (berthref13_part.j0 k y0 y1 y2 y3 y4 y5 y6 y7) (berthref13_part.j0 (k + 1) y0 y1 y2 y3 y4 y5 y6 y7)) ∧ (∀ y0 y1 y2 y3 y4 y5 y6 y7 y8, LeO (berthref13_part.l0 k y0 y1 y2 y3 y4 y5 y6 y7 y8) (berthref13_part.l0 (k + 1) y0 y1 y2 y3 y4 y5 y6 y7 y8))
  | 0 => ⟨fun _ _ _ _ _ _ _ _ r h => by simp [berthref13_part.j0] at h, fun _ _ _ _ _ _ _ _ _ r h => by simp [berthref13_part.l0] at h⟩
  | k + 1 => by
    obtain ⟨ih0, ih1⟩ := berthref13_part.mono_l k
    refine ⟨?_, ?_⟩
    · intro y0 y1 y2 y3 y4 y5 y6 y7
      unfold berthref13_part.j0
      repeat' first
      | (with_reducible exact ih0 _ _ _ _ _ _ _ _)
      | (with_reducible exact ih1 _ _ _ _ _ _ _ _ _)
      | (with_reducible exact berthref13_class.mono _ _ _)
      | (with_reducible exact berthref13_holds.mono _ _ _ _ _)
      | (with_reducible exact berthref13_kids.mono _ _ _)
      | (with_reducible exact LeO.refl _)
      | (with_reducible exact LeO.none _)
      | (with_reducible refine LeO.ite ?_ ?_)
      | (with_reducible refine LeO.bind ?_ (fun _ => ?_))
      | exact ih0 _ _ _ _ _ _ _ _
      | exact ih1 _ _ _ _ _ _ _ _ _
      | exact berthref13_class.mono _ _ _
      | exact berthref13_holds.mono _ _ _ _ _
      | exact berthref13_kids.mono _ _ _
      | exact LeO.none _
      | refine LeO.ite ?_ ?_
      | refine LeO.bind ?_ (fun _ => ?_)
    · intro y0 y1 y2 y3 y4 y5 y6 y7 y8
      unfold berthref13_part.l0
      repeat' first
      | (with_reducible exact ih0 _ _ _ _ _ _ _ _)
      | (with_reducible exact ih1 _ _ _ _ _ _ _ _ _)
      | (with_reducible exact berthref13_class.mono _ _ _)
      | (with_reducible exact berthref13_holds.mono _ _ _ _ _)
      | (with_reducible exact berthref13_kids.mono _ _ _)
      | (with_reducible exact LeO.refl _)
      | (with_reducible exact LeO.none _)
      | (with_reducible refine LeO.ite ?_ ?_)
      | (with_reducible refine LeO.bind ?_ (fun _ => ?_))
      | exact ih0 _ _ _ _ _ _ _ _
      | exact ih1 _ _ _ _ _ _ _ _ _
      | exact berthref13_class.mono _ _ _
      | exact berthref13_holds.mono _ _ _ _ _
      | exact berthref13_kids.mono _ _ _
      | exact LeO.none _
      | refine LeO.ite ?_ ?_
      | refine LeO.bind ?_ (fun _ => ?_)
theorem berthref13_part.mono : ∀ a0 a1 a2 k, LeO (berthref13_part.f k a0 a1 a2) (berthref13_part.f (k + 1) a0 a1 a2) := by
  intro a0 a1 a2 k
  obtain ⟨ih0, ih1⟩ := berthref13_part.mono_l k
  unfold berthref13_part.f
  repeat' first
      | (with_reducible exact ih0 _ _ _ _ _ _ _ _)
      | (with_reducible exact ih1 _ _ _ _ _ _ _ _ _)
      | (with_reducible exact berthref13_class.mono _ _ _)
      | (with_reducible exact berthref13_holds.mono _ _ _ _ _)
      | (with_reducible exact berthref13_kids.mono _ _ _)
      | (with_reducible exact LeO.refl _)
      | (with_reducible exact LeO.none _)
      | (with_reducible refine LeO.ite ?_ ?_)
      | (with_reducible refine LeO.bind ?_ (fun _ => ?_))
      | exact ih0 _ _ _ _ _ _ _ _
      | exact ih1 _ _ _ _ _ _ _ _ _
      | exact berthref13_class.mono _ _ _
      | exact berthref13_holds.mono _ _ _ _ _
      | exact berthref13_kids.mono _ _ _
      | exact LeO.none _
      | refine LeO.ite ?_ ?_
      | refine LeO.bind ?_ (fun _ => ?_)
set_option maxHeartbeats 8000000 in
set_option maxRecDepth 100000 in
theorem berthref13_part.calls (k : Nat) (A0_0 : Option Addr) (c0_0 : Nat) (l0_0 : List (S45)) (a1 : Int) (A2 : Option Addr) (c2 : Nat) (l2 : List Int) (r : Bool) (w : World) (hr0_0 : Kd.C k45 w A0_0 l0_0.length l0_0) (hc0_0 : l0_0.length ≤ c0_0) (hr2 : Kd.C (Kd.int .i64) w A2 l2.length l2) (hc2 : l2.length ≤ c2) (h : berthref13_part.f k l0_0 a1 l2 = some r) :
    Calls Tryd.prog 30 #[.agg #[.slice A0_0 l0_0.length c0_0], .int .i64 a1, .slice A2 l2.length c2] w fun e w' => e = .returned (.bool r) ∧ Below w.heap.size w w' := by
  have hu24 := Tryd.underlying24
  have hu45 := Tryd.underlying45
  have HR0_0 := Aside0.mk hr0_0
  have HC0_0 := Aside0.mk hc0_0
  clear hr0_0 hc0_0
  have HR2 := Aside0.mk hr2
  have HC2 := Aside0.mk hc2
  clear hr2 hc2
  have HB := Aside0.mk (Below.refl w.heap.size w)
  have H : (if 0 ≤ a1 then (if a1 < (l0_0.length : Int) then ((berthref13_kids.f k ((rd_T45 l0_0 a1).f0) (((rd_T45 l0_0 a1).f3).length : Int)).bind fun t216 => (if t216 = true then (if ((rd_T45 l0_0 a1).f0) < 1 then (berthref13_part.j0 k l2 ((rd_T45 l0_0 a1).f0) true l0_0 ((rd_T45 l0_0 a1).f0) ((rd_T45 l0_0 a1).f1) ((rd_T45 l0_0 a1).f2) ((rd_T45 l0_0 a1).f3)) else (if ((rd_T45 l0_0 a1).f0) > 20 then (berthref13_part.j0 k l2 ((rd_T45 l0_0 a1).f0) true l0_0 ((rd_T45 l0_0 a1).f0) ((rd_T45 l0_0 a1).f1) ((rd_T45 l0_0 a1).f2) ((rd_T45 l0_0 a1).f3)) else (berthref13_part.j0 k l2 ((rd_T45 l0_0 a1).f0) (decide ((((rd_T45 l0_0 a1).f3).length : Int) > (l2.length : Int))) l0_0 ((rd_T45 l0_0 a1).f0) ((rd_T45 l0_0 a1).f1) ((rd_T45 l0_0 a1).f2) ((rd_T45 l0_0 a1).f3)))) else (berthref13_part.j0 k l2 ((rd_T45 l0_0 a1).f0) true l0_0 ((rd_T45 l0_0 a1).f0) ((rd_T45 l0_0 a1).f1) ((rd_T45 l0_0 a1).f2) ((rd_T45 l0_0 a1).f3)))) else (none)) else (none)) = some r := h
  clear h
  by_cases c4 : 0 ≤ a1
  · rw [if_pos c4] at H
    have c4b0 : decide (0 ≤ a1) = true := decide_eq_true c4
    clear c4
    by_cases c5 : a1 < (l0_0.length : Int)
    · rw [if_pos c5] at H
      have c5b0 : decide (a1 < (l0_0.length : Int)) = true := decide_eq_true c5
      clear c5
      replace H := Option.bind_eq_some_iff.mp H
      obtain ⟨t216, A60, H⟩ := H
      replace H : (if t216 = true then (if ((rd_T45 l0_0 a1).f0) < 1 then (berthref13_part.j0 k l2 ((rd_T45 l0_0 a1).f0) true l0_0 ((rd_T45 l0_0 a1).f0) ((rd_T45 l0_0 a1).f1) ((rd_T45 l0_0 a1).f2) ((rd_T45 l0_0 a1).f3)) else (if ((rd_T45 l0_0 a1).f0) > 20 then (berthref13_part.j0 k l2 ((rd_T45 l0_0 a1).f0) true l0_0 ((rd_T45 l0_0 a1).f0) ((rd_T45 l0_0 a1).f1) ((rd_T45 l0_0 a1).f2) ((rd_T45 l0_0 a1).f3)) else (berthref13_part.j0 k l2 ((rd_T45 l0_0 a1).f0) (decide ((((rd_T45 l0_0 a1).f3).length : Int) > (l2.length : Int))) l0_0 ((rd_T45 l0_0 a1).f0) ((rd_T45 l0_0 a1).f1) ((rd_T45 l0_0 a1).f2) ((rd_T45 l0_0 a1).f3)))) else (berthref13_part.j0 k l2 ((rd_T45 l0_0 a1).f0) true l0_0 ((rd_T45 l0_0 a1).f0) ((rd_T45 l0_0 a1).f1) ((rd_T45 l0_0 a1).f2) ((rd_T45 l0_0 a1).f3))) = some r := H
      have A6 := Aside0.mk A60
      clear A60
      have HC7 := Aside0.mk H
      clear H
      go_enter Tryd.func30, Tryd.ntmps30
      go_upto_region 4 with (first | ((with_reducible refine gate_dst (N := 3) rfl ?_); (try (refine gate_guard (by rfl) ?_; dsimp only)); refine box_event ?hg (N := 3) ?hd (cs := #[.slice A0_0 l0_0.length c0_0]) (t := 24) ?hr ?_; (case hd => rfl); (case hg => rfl); (case hr => first | (go_simp; done) | (go_simp; rfl)); intro gb213 hg w8 hbox hb; have n0_ := Aside0.mk (below_step (by repeat (first | (with_reducible first | exact HB.out | apply below_alloc | apply pw_below_drewN | apply below_drew1) | exact HB.out)) hb); have n1_ := Aside0.mk (hbox); have n2_ := Aside0.mk ((by rw [hg]; exact (below_size (by repeat (first | (with_reducible first | exact HB.out | apply below_alloc | apply pw_below_drewN | apply below_drew1) | exact HB.out))) : w.heap.size ≤ gb213)); have n3_ := Aside0.mk ((by rw [hg]; exact (below_size (by repeat (first | (with_reducible first | exact HB.out | apply below_alloc | apply pw_below_drewN | apply below_drew1) | exact HB.out))) : w.heap.size ≤ gb213)); clear HB; have HB := n0_; have BK213 := n1_; have GW213 := n2_; have GE213 := n3_; clear n0_ n1_ n2_ n3_; clear hb hbox hg; have hcz9_0 : w8.cell? ⟨gb213, 0, none⟩ = some (.slice A0_0 l0_0.length c0_0) := (blk_cell BK213.out 0).trans rfl; have hfz9_0 := blk_frozen BK213.out 0; have p214 : 0 ≤ (a1 : Int) := of_decide_eq_true (by first | (with_reducible assumption) | assumption); have q214 : a1 < (l0_0.length : Int) := of_decide_eq_true (by first | (with_reducible assumption) | assumption); obtain ⟨ad214, A214_3, c214_3, e214, hx214_0, hx214_1, hx214_2, hx214_3, hl214_3, hi214_3⟩ := at_T45 HR0_0.out a1 p214 q214; cases e214; replace hx214_0 := (HB.out.cell (World.block_lt_of_cell? w _ hx214_0)).trans hx214_0; replace hx214_1 := (HB.out.cell (World.block_lt_of_cell? w _ hx214_1)).trans hx214_1; replace hx214_2 := (HB.out.cell (World.block_lt_of_cell? w _ hx214_2)).trans hx214_2; replace hx214_3 := (HB.out.cell (World.block_lt_of_cell? w _ hx214_3)).trans hx214_3; have HR214_3 := Aside0.mk hi214_3; have HC214_3 := Aside0.mk hl214_3; clear hi214_3 hl214_3; replace p214 := eq_true p214; replace q214 := eq_true q214) | ((with_reducible refine gate_dst (N := 7) rfl ?_); (try (refine gate_guard (by rfl) ?_; dsimp only)); refine box_event ?hg (N := 7) ?hd (cs := #[.int .i64 0, .string (⟨#[]⟩ : ByteArray), .int .i64 0, .slice none 0 0]) (t := 45) ?hr ?_; (case hd => rfl); (case hg => rfl); (case hr => first | (go_simp; done) | (go_simp; rfl)); intro gb215 hg w10 hbox hb; have n0_ := Aside0.mk (blk_below (g := gb213) (o := .cells #[.slice (some ad214) l0_0.length c0_0] 24 (0, 0)) (by (with_reducible repeat (first | refine blk_drewN ?_ _ | refine blk_drew ?_ | refine blk_alloc ?_ _)); exact BK213.out) hb); have n1_ := Aside0.mk (below_step (by repeat (first | (with_reducible first | exact HB.out | apply below_alloc | apply pw_below_drewN | apply below_drew1 | refine below_set ?_ GE213.out) | exact HB.out)) hb); have n2_ := Aside0.mk (hbox); have n3_ := Aside0.mk ((by rw [hg]; exact (below_size (by repeat (first | (with_reducible first | exact HB.out | apply below_alloc | apply pw_below_drewN | apply below_drew1 | refine below_set ?_ GE213.out) | exact HB.out))) : w.heap.size ≤ gb215)); have n4_ := Aside0.mk ((by rw [hg]; exact (below_size (by repeat (first | (with_reducible first | exact HB.out | apply below_alloc | apply pw_below_drewN | apply below_drew1 | refine below_set ?_ GE213.out) | exact HB.out))) : w.heap.size ≤ gb215)); have n5_ := Aside0.mk ((by rw [hg]; exact Nat.ne_of_lt (blk_lt (g := gb213) (o := .cells #[.slice (some ad214) l0_0.length c0_0] 24 (0, 0)) (by (with_reducible repeat (first | refine blk_drewN ?_ _ | refine blk_drew ?_ | refine blk_alloc ?_ _)); exact BK213.out)) : gb213 ≠ gb215)); have n6_ := Aside0.mk ((by rw [hg]; exact Nat.ne_of_gt (blk_lt (g := gb213) (o := .cells #[.slice (some ad214) l0_0.length c0_0] 24 (0, 0)) (by (with_reducible repeat (first | refine blk_drewN ?_ _ | refine blk_drew ?_ | refine blk_alloc ?_ _)); exact BK213.out)) : gb215 ≠ gb213)); clear BK213; clear HB; have BK213 := n0_; have HB := n1_; have BK215 := n2_; have GW215 := n3_; have GE215 := n4_; have NB213_215 := n5_; have NB215_213 := n6_; clear n0_ n1_ n2_ n3_ n4_ n5_ n6_; clear hb hbox hg; have hnb11 := NB215_213.out; have hnc11 := NB213_215.out; have hcz12_0 : w10.cell? ⟨gb215, 0, none⟩ = some (.int .i64 0) := (blk_cell BK215.out 0).trans rfl; have hcz12_1 : w10.cell? ⟨gb215, 1, none⟩ = some (.string (⟨#[]⟩ : ByteArray)) := (blk_cell BK215.out 1).trans rfl; have hcz12_2 : w10.cell? ⟨gb215, 2, none⟩ = some (.int .i64 0) := (blk_cell BK215.out 2).trans rfl; have hcz12_3 : w10.cell? ⟨gb215, 3, none⟩ = some (.slice none 0 0) := (blk_cell BK215.out 3).trans rfl; have hfz12_0 := blk_frozen BK215.out 0; have hfz12_1 := blk_frozen BK215.out 1; have hfz12_2 := blk_frozen BK215.out 2; have hfz12_3 := blk_frozen BK215.out 3) | (go_at_call 46; (with_reducible refine (berthref13_kids.calls k ((rd_T45 l0_0 a1).f0) (((rd_T45 l0_0 a1).f3).length : Int) t216 _ A6.out).mono ?_); rintro e w' ⟨rfl, ⟨nd, rfl⟩⟩; (try first | exact ⟨rfl, _, World.drewN_drewN _ _ _⟩ | exact ⟨rfl, _, Eq.trans (World.drewN_drewN _ _ _) (congrArg (World.drewN _) (Nat.add_assoc _ _ _))⟩)))
      repeat (go_quiet (first | ((with_reducible refine gate_dst (N := 3) rfl ?_); (try (refine gate_guard (by rfl) ?_; dsimp only)); refine box_event ?hg (N := 3) ?hd (cs := #[.slice A0_0 l0_0.length c0_0]) (t := 24) ?hr ?_; (case hd => rfl); (case hg => rfl); (case hr => first | (go_simp; done) | (go_simp; rfl)); intro gb213 hg w8 hbox hb; have n0_ := Aside0.mk (below_step (by repeat (first | (with_reducible first | exact HB.out | apply below_alloc | apply pw_below_drewN | apply below_drew1) | exact HB.out)) hb); have n1_ := Aside0.mk (hbox); have n2_ := Aside0.mk ((by rw [hg]; exact (below_size (by repeat (first | (with_reducible first | exact HB.out | apply below_alloc | apply pw_below_drewN | apply below_drew1) | exact HB.out))) : w.heap.size ≤ gb213)); have n3_ := Aside0.mk ((by rw [hg]; exact (below_size (by repeat (first | (with_reducible first | exact HB.out | apply below_alloc | apply pw_below_drewN | apply below_drew1) | exact HB.out))) : w.heap.size ≤ gb213)); clear HB; have HB := n0_; have BK213 := n1_; have GW213 := n2_; have GE213 := n3_; clear n0_ n1_ n2_ n3_; clear hb hbox hg; have hcz9_0 : w8.cell? ⟨gb213, 0, none⟩ = some (.slice A0_0 l0_0.length c0_0) := (blk_cell BK213.out 0).trans rfl; have hfz9_0 := blk_frozen BK213.out 0; have p214 : 0 ≤ (a1 : Int) := of_decide_eq_true (by first | (with_reducible assumption) | assumption); have q214 : a1 < (l0_0.length : Int) := of_decide_eq_true (by first | (with_reducible assumption) | assumption); obtain ⟨ad214, A214_3, c214_3, e214, hx214_0, hx214_1, hx214_2, hx214_3, hl214_3, hi214_3⟩ := at_T45 HR0_0.out a1 p214 q214; cases e214; replace hx214_0 := (HB.out.cell (World.block_lt_of_cell? w _ hx214_0)).trans hx214_0; replace hx214_1 := (HB.out.cell (World.block_lt_of_cell? w _ hx214_1)).trans hx214_1; replace hx214_2 := (HB.out.cell (World.block_lt_of_cell? w _ hx214_2)).trans hx214_2; replace hx214_3 := (HB.out.cell (World.block_lt_of_cell? w _ hx214_3)).trans hx214_3; have HR214_3 := Aside0.mk hi214_3; have HC214_3 := Aside0.mk hl214_3; clear hi214_3 hl214_3; replace p214 := eq_true p214; replace q214 := eq_true q214) | ((with_reducible refine gate_dst (N := 7) rfl ?_); (try (refine gate_guard (by rfl) ?_; dsimp only)); refine box_event ?hg (N := 7) ?hd (cs := #[.int .i64 0, .string (⟨#[]⟩ : ByteArray), .int .i64 0, .slice none 0 0]) (t := 45) ?hr ?_; (case hd => rfl); (case hg => rfl); (case hr => first | (go_simp; done) | (go_simp; rfl)); intro gb215 hg w10 hbox hb; have n0_ := Aside0.mk (blk_below (g := gb213) (o := .cells #[.slice (some ad214) l0_0.length c0_0] 24 (0, 0)) (by (with_reducible repeat (first | refine blk_drewN ?_ _ | refine blk_drew ?_ | refine blk_alloc ?_ _)); exact BK213.out) hb); have n1_ := Aside0.mk (below_step (by repeat (first | (with_reducible first | exact HB.out | apply below_alloc | apply pw_below_drewN | apply below_drew1 | refine below_set ?_ GE213.out) | exact HB.out)) hb); have n2_ := Aside0.mk (hbox); have n3_ := Aside0.mk ((by rw [hg]; exact (below_size (by repeat (first | (with_reducible first | exact HB.out | apply below_alloc | apply pw_below_drewN | apply below_drew1 | refine below_set ?_ GE213.out) | exact HB.out))) : w.heap.size ≤ gb215)); have n4_ := Aside0.mk ((by rw [hg]; exact (below_size (by repeat (first | (with_reducible first | exact HB.out | apply below_alloc | apply pw_below_drewN | apply below_drew1 | refine below_set ?_ GE213.out) | exact HB.out))) : w.heap.size ≤ gb215)); have n5_ := Aside0.mk ((by rw [hg]; exact Nat.ne_of_lt (blk_lt (g := gb213) (o := .cells #[.slice (some ad214) l0_0.length c0_0] 24 (0, 0)) (by (with_reducible repeat (first | refine blk_drewN ?_ _ | refine blk_drew ?_ | refine blk_alloc ?_ _)); exact BK213.out)) : gb213 ≠ gb215)); have n6_ := Aside0.mk ((by rw [hg]; exact Nat.ne_of_gt (blk_lt (g := gb213) (o := .cells #[.slice (some ad214) l0_0.length c0_0] 24 (0, 0)) (by (with_reducible repeat (first | refine blk_drewN ?_ _ | refine blk_drew ?_ | refine blk_alloc ?_ _)); exact BK213.out)) : gb215 ≠ gb213)); clear BK213; clear HB; have BK213 := n0_; have HB := n1_; have BK215 := n2_; have GW215 := n3_; have GE215 := n4_; have NB213_215 := n5_; have NB215_213 := n6_; clear n0_ n1_ n2_ n3_ n4_ n5_ n6_; clear hb hbox hg; have hnb11 := NB215_213.out; have hnc11 := NB213_215.out; have hcz12_0 : w10.cell? ⟨gb215, 0, none⟩ = some (.int .i64 0) := (blk_cell BK215.out 0).trans rfl; have hcz12_1 : w10.cell? ⟨gb215, 1, none⟩ = some (.string (⟨#[]⟩ : ByteArray)) := (blk_cell BK215.out 1).trans rfl; have hcz12_2 : w10.cell? ⟨gb215, 2, none⟩ = some (.int .i64 0) := (blk_cell BK215.out 2).trans rfl; have hcz12_3 : w10.cell? ⟨gb215, 3, none⟩ = some (.slice none 0 0) := (blk_cell BK215.out 3).trans rfl; have hfz12_0 := blk_frozen BK215.out 0; have hfz12_1 := blk_frozen BK215.out 1; have hfz12_2 := blk_frozen BK215.out 2; have hfz12_3 := blk_frozen BK215.out 3) | (go_at_call 46; (with_reducible refine (berthref13_kids.calls k ((rd_T45 l0_0 a1).f0) (((rd_T45 l0_0 a1).f3).length : Int) t216 _ A6.out).mono ?_); rintro e w' ⟨rfl, ⟨nd, rfl⟩⟩; (try first | exact ⟨rfl, _, World.drewN_drewN _ _ _⟩ | exact ⟨rfl, _, Eq.trans (World.drewN_drewN _ _ _) (congrArg (World.drewN _) (Nat.add_assoc _ _ _))⟩))); go_upto_region 4 with (first | ((with_reducible refine gate_dst (N := 3) rfl ?_); (try (refine gate_guard (by rfl) ?_; dsimp only)); refine box_event ?hg (N := 3) ?hd (cs := #[.slice A0_0 l0_0.length c0_0]) (t := 24) ?hr ?_; (case hd => rfl); (case hg => rfl); (case hr => first | (go_simp; done) | (go_simp; rfl)); intro gb213 hg w8 hbox hb; have n0_ := Aside0.mk (below_step (by repeat (first | (with_reducible first | exact HB.out | apply below_alloc | apply pw_below_drewN | apply below_drew1) | exact HB.out)) hb); have n1_ := Aside0.mk (hbox); have n2_ := Aside0.mk ((by rw [hg]; exact (below_size (by repeat (first | (with_reducible first | exact HB.out | apply below_alloc | apply pw_below_drewN | apply below_drew1) | exact HB.out))) : w.heap.size ≤ gb213)); have n3_ := Aside0.mk ((by rw [hg]; exact (below_size (by repeat (first | (with_reducible first | exact HB.out | apply below_alloc | apply pw_below_drewN | apply below_drew1) | exact HB.out))) : w.heap.size ≤ gb213)); clear HB; have HB := n0_; have BK213 := n1_; have GW213 := n2_; have GE213 := n3_; clear n0_ n1_ n2_ n3_; clear hb hbox hg; have hcz9_0 : w8.cell? ⟨gb213, 0, none⟩ = some (.slice A0_0 l0_0.length c0_0) := (blk_cell BK213.out 0).trans rfl; have hfz9_0 := blk_frozen BK213.out 0; have p214 : 0 ≤ (a1 : Int) := of_decide_eq_true (by first | (with_reducible assumption) | assumption); have q214 : a1 < (l0_0.length : Int) := of_decide_eq_true (by first | (with_reducible assumption) | assumption); obtain ⟨ad214, A214_3, c214_3, e214, hx214_0, hx214_1, hx214_2, hx214_3, hl214_3, hi214_3⟩ := at_T45 HR0_0.out a1 p214 q214; cases e214; replace hx214_0 := (HB.out.cell (World.block_lt_of_cell? w _ hx214_0)).trans hx214_0; replace hx214_1 := (HB.out.cell (World.block_lt_of_cell? w _ hx214_1)).trans hx214_1; replace hx214_2 := (HB.out.cell (World.block_lt_of_cell? w _ hx214_2)).trans hx214_2; replace hx214_3 := (HB.out.cell (World.block_lt_of_cell? w _ hx214_3)).trans hx214_3; have HR214_3 := Aside0.mk hi214_3; have HC214_3 := Aside0.mk hl214_3; clear hi214_3 hl214_3; replace p214 := eq_true p214; replace q214 := eq_true q214) | ((with_reducible refine gate_dst (N := 7) rfl ?_); (try (refine gate_guard (by rfl) ?_; dsimp only)); refine box_event ?hg (N := 7) ?hd (cs := #[.int .i64 0, .string (⟨#[]⟩ : ByteArray), .int .i64 0, .slice none 0 0]) (t := 45) ?hr ?_; (case hd => rfl); (case hg => rfl); (case hr => first | (go_simp; done) | (go_simp; rfl)); intro gb215 hg w10 hbox hb; have n0_ := Aside0.mk (blk_below (g := gb213) (o := .cells #[.slice (some ad214) l0_0.length c0_0] 24 (0, 0)) (by (with_reducible repeat (first | refine blk_drewN ?_ _ | refine blk_drew ?_ | refine blk_alloc ?_ _)); exact BK213.out) hb); have n1_ := Aside0.mk (below_step (by repeat (first | (with_reducible first | exact HB.out | apply below_alloc | apply pw_below_drewN | apply below_drew1 | refine below_set ?_ GE213.out) | exact HB.out)) hb); have n2_ := Aside0.mk (hbox); have n3_ := Aside0.mk ((by rw [hg]; exact (below_size (by repeat (first | (with_reducible first | exact HB.out | apply below_alloc | apply pw_below_drewN | apply below_drew1 | refine below_set ?_ GE213.out) | exact HB.out))) : w.heap.size ≤ gb215)); have n4_ := Aside0.mk ((by rw [hg]; exact (below_size (by repeat (first | (with_reducible first | exact HB.out | apply below_alloc | apply pw_below_drewN | apply below_drew1 | refine below_set ?_ GE213.out) | exact HB.out))) : w.heap.size ≤ gb215)); have n5_ := Aside0.mk ((by rw [hg]; exact Nat.ne_of_lt (blk_lt (g := gb213) (o := .cells #[.slice (some ad214) l0_0.length c0_0] 24 (0, 0)) (by (with_reducible repeat (first | refine blk_drewN ?_ _ | refine blk_drew ?_ | refine blk_alloc ?_ _)); exact BK213.out)) : gb213 ≠ gb215)); have n6_ := Aside0.mk ((by rw [hg]; exact Nat.ne_of_gt (blk_lt (g := gb213) (o := .cells #[.slice (some ad214) l0_0.length c0_0] 24 (0, 0)) (by (with_reducible repeat (first | refine blk_drewN ?_ _ | refine blk_drew ?_ | refine blk_alloc ?_ _)); exact BK213.out)) : gb215 ≠ gb213)); clear BK213; clear HB; have BK213 := n0_; have HB := n1_; have BK215 := n2_; have GW215 := n3_; have GE215 := n4_; have NB213_215 := n5_; have NB215_213 := n6_; clear n0_ n1_ n2_ n3_ n4_ n5_ n6_; clear hb hbox hg; have hnb11 := NB215_213.out; have hnc11 := NB213_215.out; have hcz12_0 : w10.cell? ⟨gb215, 0, none⟩ = some (.int .i64 0) := (blk_cell BK215.out 0).trans rfl; have hcz12_1 : w10.cell? ⟨gb215, 1, none⟩ = some (.string (⟨#[]⟩ : ByteArray)) := (blk_cell BK215.out 1).trans rfl; have hcz12_2 : w10.cell? ⟨gb215, 2, none⟩ = some (.int .i64 0) := (blk_cell BK215.out 2).trans rfl; have hcz12_3 : w10.cell? ⟨gb215, 3, none⟩ = some (.slice none 0 0) := (blk_cell BK215.out 3).trans rfl; have hfz12_0 := blk_frozen BK215.out 0; have hfz12_1 := blk_frozen BK215.out 1; have hfz12_2 := blk_frozen BK215.out 2; have hfz12_3 := blk_frozen BK215.out 3) | (go_at_call 46; (with_reducible refine (berthref13_kids.calls k ((rd_T45 l0_0 a1).f0) (((rd_T45 l0_0 a1).f3).length : Int) t216 _ A6.out).mono ?_); rintro e w' ⟨rfl, ⟨nd, rfl⟩⟩; (try first | exact ⟨rfl, _, World.drewN_drewN _ _ _⟩ | exact ⟨rfl, _, Eq.trans (World.drewN_drewN _ _ _) (congrArg (World.drewN _) (Nat.add_assoc _ _ _))⟩))))
      (try simp only [Act.put, List.setIfInBounds_toArray, List.set_cons_zero, List.set_cons_succ])
      go_cut [41] (fun v41 wc => ∃ (kq : Nat) (x41_6 : Bool), v41 = .bool x41_6 ∧ Aside0 (berthref13_part.j0 kq l2 ((rd_T45 l0_0 a1).f0) x41_6 l0_0 ((rd_T45 l0_0 a1).f0) ((rd_T45 l0_0 a1).f1) ((rd_T45 l0_0 a1).f2) ((rd_T45 l0_0 a1).f3) = some r) ∧ Aside0 (kq ≤ k) ∧ Aside0 (wc.heap[gb213]? = some (.cells #[(.slice (some ad214) l0_0.length c0_0)] 24 (0, 0))) ∧ Aside0 (wc.heap[gb215]? = some (.cells #[.int .i64 ((rd_T45 l0_0 a1).f0), .string ((rd_T45 l0_0 a1).f1), .int .i64 ((rd_T45 l0_0 a1).f2), (.slice A214_3 ((rd_T45 l0_0 a1).f3).length c214_3)] 45 (0, 0))) ∧ Aside0 (Below w.heap.size w wc))
      case first =>
        have H := HC7.out
        clear HC7
        by_cases c13 : t216 = true
        · subst c13
          have H1 : (if ((rd_T45 l0_0 a1).f0) < 1 then (berthref13_part.j0 k l2 ((rd_T45 l0_0 a1).f0) true l0_0 ((rd_T45 l0_0 a1).f0) ((rd_T45 l0_0 a1).f1) ((rd_T45 l0_0 a1).f2) ((rd_T45 l0_0 a1).f3)) else (if ((rd_T45 l0_0 a1).f0) > 20 then (berthref13_part.j0 k l2 ((rd_T45 l0_0 a1).f0) true l0_0 ((rd_T45 l0_0 a1).f0) ((rd_T45 l0_0 a1).f1) ((rd_T45 l0_0 a1).f2) ((rd_T45 l0_0 a1).f3)) else (berthref13_part.j0 k l2 ((rd_T45 l0_0 a1).f0) (decide ((((rd_T45 l0_0 a1).f3).length : Int) > (l2.length : Int))) l0_0 ((rd_T45 l0_0 a1).f0) ((rd_T45 l0_0 a1).f1) ((rd_T45 l0_0 a1).f2) ((rd_T45 l0_0 a1).f3)))) = some r := by rw [if_pos rfl] at H; exact H
          clear H
          have H := H1
          clear H1
          by_cases c14 : ((rd_T45 l0_0 a1).f0) < 1
          · rw [if_pos c14] at H
            have c14b0 : decide (((rd_T45 l0_0 a1).f0) < 1) = true := decide_eq_true c14
            clear c14
            (first | rw [c14b0] | (simp only [i64_w, i32_w]; rw [c14b0]) | skip)
            have H' := Aside0.mk H
            clear H
            go_wp2
            repeat (go_quiet (fail); try go_wp2)
            go_meet
            case rel => exact ⟨_, (true), (by first | rfl | (simp; done) | (simp [*]; done)), H', ⟨by first | omega | exact Nat.le_refl _⟩, ⟨by (with_reducible repeat (first | refine blk_drewN ?_ _ | refine blk_drew ?_ | refine blk_alloc ?_ _)); refine blk_far ?_ NB213_215.out _; (with_reducible repeat (first | refine blk_drewN ?_ _ | refine blk_drew ?_ | refine blk_alloc ?_ _)); refine blk_far ?_ NB213_215.out _; (with_reducible repeat (first | refine blk_drewN ?_ _ | refine blk_drew ?_ | refine blk_alloc ?_ _)); refine blk_far ?_ NB213_215.out _; (with_reducible repeat (first | refine blk_drewN ?_ _ | refine blk_drew ?_ | refine blk_alloc ?_ _)); refine blk_far ?_ NB213_215.out _; (with_reducible repeat (first | refine blk_drewN ?_ _ | refine blk_drew ?_ | refine blk_alloc ?_ _)); exact BK213.out⟩, ⟨by (with_reducible repeat (first | refine blk_drewN ?_ _ | refine blk_drew ?_ | refine blk_alloc ?_ _)); refine blk_put (cs := #[.int .i64 ((rd_T45 l0_0 a1).f0), .string ((rd_T45 l0_0 a1).f1), .int .i64 ((rd_T45 l0_0 a1).f2), .slice none 0 0]) ?_ 3 _ rfl; (with_reducible repeat (first | refine blk_drewN ?_ _ | refine blk_drew ?_ | refine blk_alloc ?_ _)); refine blk_put (cs := #[.int .i64 ((rd_T45 l0_0 a1).f0), .string ((rd_T45 l0_0 a1).f1), .int .i64 0, .slice none 0 0]) ?_ 2 _ rfl; (with_reducible repeat (first | refine blk_drewN ?_ _ | refine blk_drew ?_ | refine blk_alloc ?_ _)); refine blk_put (cs := #[.int .i64 ((rd_T45 l0_0 a1).f0), .string (⟨#[]⟩ : ByteArray), .int .i64 0, .slice none 0 0]) ?_ 1 _ rfl; (with_reducible repeat (first | refine blk_drewN ?_ _ | refine blk_drew ?_ | refine blk_alloc ?_ _)); refine blk_put (cs := #[.int .i64 0, .string (⟨#[]⟩ : ByteArray), .int .i64 0, .slice none 0 0]) ?_ 0 _ rfl; (with_reducible repeat (first | refine blk_drewN ?_ _ | refine blk_drew ?_ | refine blk_alloc ?_ _)); exact BK215.out⟩, ⟨by repeat (first | (with_reducible first | exact HB.out | apply below_alloc | apply pw_below_drewN | apply below_drew1 | refine below_set ?_ GE213.out | refine below_set ?_ GE215.out) | exact HB.out)⟩⟩
          · rw [if_neg c14] at H
            have c14b0 : decide (((rd_T45 l0_0 a1).f0) < 1) = false := decide_eq_false c14
            clear c14
            (first | rw [c14b0] | (simp only [i64_w, i32_w]; rw [c14b0]) | skip)
            by_cases c15 : ((rd_T45 l0_0 a1).f0) > 20
            · rw [if_pos c15] at H
              have c15b0 : decide (20 < ((rd_T45 l0_0 a1).f0)) = true := decide_eq_true c15
              clear c15
              have H' := Aside0.mk H
              clear H
              go_wp2
              repeat (go_quiet (fail); try go_wp2)
              go_meet
              case rel => exact ⟨_, (true), (by first | rfl | (simp; done) | (simp [*]; done)), H', ⟨by first | omega | exact Nat.le_refl _⟩, ⟨by (with_reducible repeat (first | refine blk_drewN ?_ _ | refine blk_drew ?_ | refine blk_alloc ?_ _)); refine blk_far ?_ NB213_215.out _; (with_reducible repeat (first | refine blk_drewN ?_ _ | refine blk_drew ?_ | refine blk_alloc ?_ _)); refine blk_far ?_ NB213_215.out _; (with_reducible repeat (first | refine blk_drewN ?_ _ | refine blk_drew ?_ | refine blk_alloc ?_ _)); refine blk_far ?_ NB213_215.out _; (with_reducible repeat (first | refine blk_drewN ?_ _ | refine blk_drew ?_ | refine blk_alloc ?_ _)); refine blk_far ?_ NB213_215.out _; (with_reducible repeat (first | refine blk_drewN ?_ _ | refine blk_drew ?_ | refine blk_alloc ?_ _)); exact BK213.out⟩, ⟨by (with_reducible repeat (first | refine blk_drewN ?_ _ | refine blk_drew ?_ | refine blk_alloc ?_ _)); refine blk_put (cs := #[.int .i64 ((rd_T45 l0_0 a1).f0), .string ((rd_T45 l0_0 a1).f1), .int .i64 ((rd_T45 l0_0 a1).f2), .slice none 0 0]) ?_ 3 _ rfl; (with_reducible repeat (first | refine blk_drewN ?_ _ | refine blk_drew ?_ | refine blk_alloc ?_ _)); refine blk_put (cs := #[.int .i64 ((rd_T45 l0_0 a1).f0), .string ((rd_T45 l0_0 a1).f1), .int .i64 0, .slice none 0 0]) ?_ 2 _ rfl; (with_reducible repeat (first | refine blk_drewN ?_ _ | refine blk_drew ?_ | refine blk_alloc ?_ _)); refine blk_put (cs := #[.int .i64 ((rd_T45 l0_0 a1).f0), .string (⟨#[]⟩ : ByteArray), .int .i64 0, .slice none 0 0]) ?_ 1 _ rfl; (with_reducible repeat (first | refine blk_drewN ?_ _ | refine blk_drew ?_ | refine blk_alloc ?_ _)); refine blk_put (cs := #[.int .i64 0, .string (⟨#[]⟩ : ByteArray), .int .i64 0, .slice none 0 0]) ?_ 0 _ rfl; (with_reducible repeat (first | refine blk_drewN ?_ _ | refine blk_drew ?_ | refine blk_alloc ?_ _)); exact BK215.out⟩, ⟨by repeat (first | (with_reducible first | exact HB.out | apply below_alloc | apply pw_below_drewN | apply below_drew1 | refine below_set ?_ GE213.out | refine below_set ?_ GE215.out) | exact HB.out)⟩⟩
            · rw [if_neg c15] at H
              have c15b0 : decide (20 < ((rd_T45 l0_0 a1).f0)) = false := decide_eq_false c15
              clear c15
              have H' := Aside0.mk H
              clear H
              have hnb16 := NB215_213.out
              have hnc16 := NB213_215.out
              have hcz17_0 : w10.cell? ⟨gb215, 0, none⟩ = some (.int .i64 0) := (blk_cell BK215.out 0).trans rfl
              have hcz17_1 : w10.cell? ⟨gb215, 1, none⟩ = some (.string (⟨#[]⟩ : ByteArray)) := (blk_cell BK215.out 1).trans rfl
              have hcz17_2 : w10.cell? ⟨gb215, 2, none⟩ = some (.int .i64 0) := (blk_cell BK215.out 2).trans rfl
              have hcz17_3 : w10.cell? ⟨gb215, 3, none⟩ = some (.slice none 0 0) := (blk_cell BK215.out 3).trans rfl
              have hfz17_0 := blk_frozen BK215.out 0
              have hfz17_1 := blk_frozen BK215.out 1
              have hfz17_2 := blk_frozen BK215.out 2
              have hfz17_3 := blk_frozen BK215.out 3
              go_wp2
              repeat (go_quiet (fail); try go_wp2)
              go_meet
              case rel => exact ⟨_, (decide ((((rd_T45 l0_0 a1).f3).length : Int) > (l2.length : Int))), (by first | rfl | (simp; done) | (simp [*]; done)), H', ⟨by first | omega | exact Nat.le_refl _⟩, ⟨by (with_reducible repeat (first | refine blk_drewN ?_ _ | refine blk_drew ?_ | refine blk_alloc ?_ _)); refine blk_far ?_ NB213_215.out _; (with_reducible repeat (first | refine blk_drewN ?_ _ | refine blk_drew ?_ | refine blk_alloc ?_ _)); refine blk_far ?_ NB213_215.out _; (with_reducible repeat (first | refine blk_drewN ?_ _ | refine blk_drew ?_ | refine blk_alloc ?_ _)); refine blk_far ?_ NB213_215.out _; (with_reducible repeat (first | refine blk_drewN ?_ _ | refine blk_drew ?_ | refine blk_alloc ?_ _)); refine blk_far ?_ NB213_215.out _; (with_reducible repeat (first | refine blk_drewN ?_ _ | refine blk_drew ?_ | refine blk_alloc ?_ _)); exact BK213.out⟩, ⟨by (with_reducible repeat (first | refine blk_drewN ?_ _ | refine blk_drew ?_ | refine blk_alloc ?_ _)); refine blk_put (cs := #[.int .i64 ((rd_T45 l0_0 a1).f0), .string ((rd_T45 l0_0 a1).f1), .int .i64 ((rd_T45 l0_0 a1).f2), .slice none 0 0]) ?_ 3 _ rfl; (with_reducible repeat (first | refine blk_drewN ?_ _ | refine blk_drew ?_ | refine blk_alloc ?_ _)); refine blk_put (cs := #[.int .i64 ((rd_T45 l0_0 a1).f0), .string ((rd_T45 l0_0 a1).f1), .int .i64 0, .slice none 0 0]) ?_ 2 _ rfl; (with_reducible repeat (first | refine blk_drewN ?_ _ | refine blk_drew ?_ | refine blk_alloc ?_ _)); refine blk_put (cs := #[.int .i64 ((rd_T45 l0_0 a1).f0), .string (⟨#[]⟩ : ByteArray), .int .i64 0, .slice none 0 0]) ?_ 1 _ rfl; (with_reducible repeat (first | refine blk_drewN ?_ _ | refine blk_drew ?_ | refine blk_alloc ?_ _)); refine blk_put (cs := #[.int .i64 0, .string (⟨#[]⟩ : ByteArray), .int .i64 0, .slice none 0 0]) ?_ 0 _ rfl; (with_reducible repeat (first | refine blk_drewN ?_ _ | refine blk_drew ?_ | refine blk_alloc ?_ _)); exact BK215.out⟩, ⟨by repeat (first | (with_reducible first | exact HB.out | apply below_alloc | apply pw_below_drewN | apply below_drew1 | refine below_set ?_ GE213.out | refine below_set ?_ GE215.out) | exact HB.out)⟩⟩
        · replace c13 := Bool.eq_false_iff.mpr c13
          subst c13
          have H1 : (berthref13_part.j0 k l2 ((rd_T45 l0_0 a1).f0) true l0_0 ((rd_T45 l0_0 a1).f0) ((rd_T45 l0_0 a1).f1) ((rd_T45 l0_0 a1).f2) ((rd_T45 l0_0 a1).f3)) = some r := by rw [if_neg (show ¬ (false = true) by decide)] at H; exact H
          clear H
          have H := H1
          clear H1
          have H' := Aside0.mk H
          clear H
          go_wp2
          repeat (go_quiet (fail); try go_wp2)
          go_meet
          case rel => exact ⟨_, (true), (by first | rfl | (simp; done) | (simp [*]; done)), H', ⟨by first | omega | exact Nat.le_refl _⟩, ⟨by (with_reducible repeat (first | refine blk_drewN ?_ _ | refine blk_drew ?_ | refine blk_alloc ?_ _)); refine blk_far ?_ NB213_215.out _; (with_reducible repeat (first | refine blk_drewN ?_ _ | refine blk_drew ?_ | refine blk_alloc ?_ _)); refine blk_far ?_ NB213_215.out _; (with_reducible repeat (first | refine blk_drewN ?_ _ | refine blk_drew ?_ | refine blk_alloc ?_ _)); refine blk_far ?_ NB213_215.out _; (with_reducible repeat (first | refine blk_drewN ?_ _ | refine blk_drew ?_ | refine blk_alloc ?_ _)); refine blk_far ?_ NB213_215.out _; (with_reducible repeat (first | refine blk_drewN ?_ _ | refine blk_drew ?_ | refine blk_alloc ?_ _)); exact BK213.out⟩, ⟨by (with_reducible repeat (first | refine blk_drewN ?_ _ | refine blk_drew ?_ | refine blk_alloc ?_ _)); refine blk_put (cs := #[.int .i64 ((rd_T45 l0_0 a1).f0), .string ((rd_T45 l0_0 a1).f1), .int .i64 ((rd_T45 l0_0 a1).f2), .slice none 0 0]) ?_ 3 _ rfl; (with_reducible repeat (first | refine blk_drewN ?_ _ | refine blk_drew ?_ | refine blk_alloc ?_ _)); refine blk_put (cs := #[.int .i64 ((rd_T45 l0_0 a1).f0), .string ((rd_T45 l0_0 a1).f1), .int .i64 0, .slice none 0 0]) ?_ 2 _ rfl; (with_reducible repeat (first | refine blk_drewN ?_ _ | refine blk_drew ?_ | refine blk_alloc ?_ _)); refine blk_put (cs := #[.int .i64 ((rd_T45 l0_0 a1).f0), .string (⟨#[]⟩ : ByteArray), .int .i64 0, .slice none 0 0]) ?_ 1 _ rfl; (with_reducible repeat (first | refine blk_drewN ?_ _ | refine blk_drew ?_ | refine blk_alloc ?_ _)); refine blk_put (cs := #[.int .i64 0, .string (⟨#[]⟩ : ByteArray), .int .i64 0, .slice none 0 0]) ?_ 0 _ rfl; (with_reducible repeat (first | refine blk_drewN ?_ _ | refine blk_drew ?_ | refine blk_alloc ?_ _)); exact BK215.out⟩, ⟨by repeat (first | (with_reducible first | exact HB.out | apply below_alloc | apply pw_below_drewN | apply below_drew1 | refine below_set ?_ GE213.out | refine below_set ?_ GE215.out) | exact HB.out)⟩⟩
      case rest =>
        clear HC7
        try clear c1
        try clear c2
        try clear p2
        try clear q2
        try clear hx2
        try clear c3
        try clear c4
        try clear c4b0
        try clear c5
        try clear c5b0
        try clear c11
        try clear c13
        try clear c14
        try clear c14b0
        try clear c15
        try clear c15b0
        try clear c16
        try clear hcz12_0
        try clear hcz12_1
        try clear hcz12_2
        try clear hcz12_3
        try clear hcz17_0
        try clear hcz17_1
        try clear hcz17_2
        try clear hcz17_3
        try clear hcz9_0
        try clear hfz12_0
        try clear hfz12_1
        try clear hfz12_2
        try clear hfz12_3
        try clear hfz17_0
        try clear hfz17_1
        try clear hfz17_2
        try clear hfz17_3
        try clear hfz9_0
        try clear hx214_0
        try clear hx214_1
        try clear hx214_2
        try clear hx214_3
        try clear p214
        try clear q214
        obtain ⟨kq, x41_6, rfl, HA, HJ6, BK213, BK215, HB⟩ := hcut
        cases kq with
        | zero => exact absurd HA.out (by simp [berthref13_part.j0])
        | succ kj6 =>
          have H := HA.out
          clear HA
          simp only [berthref13_part.j0] at H
          by_cases c18 : x41_6 = true
          · subst c18
            have H1 : (some false) = some r := by rw [if_pos rfl] at H; exact H
            clear H
            have H := H1
            clear H1
            obtain rfl := Option.some.inj H
            go_wp2
            repeat (go_quiet (fail); try go_wp2)
            go_ret
            exact ⟨by first | rfl | (simp [errW_none, errW_some] <;> rfl) | (simp [*, errW_none, errW_some] <;> rfl), by repeat (first | (with_reducible first | exact HB.out | apply below_alloc | apply pw_below_drewN | apply below_drew1 | refine below_set ?_ GE213.out | refine below_set ?_ GE215.out) | exact HB.out)⟩
          · replace c18 := Bool.eq_false_iff.mpr c18
            subst c18
            have H1 : ((berthref13_holds.f kj6 ((rd_T45 l0_0 a1).f0) ((rd_T45 l0_0 a1).f1) ((rd_T45 l0_0 a1).f2) ((rd_T45 l0_0 a1).f3)).bind fun t217 => (if t217 = true then (berthref13_part.l0 kj6 l2 ((rd_T45 l0_0 a1).f0) (wrap64 ((l2.length : Int) - (((rd_T45 l0_0 a1).f3).length : Int))) 0 l0_0 ((rd_T45 l0_0 a1).f0) ((rd_T45 l0_0 a1).f1) ((rd_T45 l0_0 a1).f2) ((rd_T45 l0_0 a1).f3)) else (some false))) = some r := by rw [if_neg (show ¬ (false = true) by decide)] at H; exact H
            clear H
            have H := H1
            clear H1
            replace H := Option.bind_eq_some_iff.mp H
            obtain ⟨t217, A190, H⟩ := H
            replace H : (if t217 = true then (berthref13_part.l0 kj6 l2 ((rd_T45 l0_0 a1).f0) (wrap64 ((l2.length : Int) - (((rd_T45 l0_0 a1).f3).length : Int))) 0 l0_0 ((rd_T45 l0_0 a1).f0) ((rd_T45 l0_0 a1).f1) ((rd_T45 l0_0 a1).f2) ((rd_T45 l0_0 a1).f3)) else (some false)) = some r := H
            have A19 := Aside0.mk A190
            clear A190
            by_cases c20 : t217 = true
            · subst c20
              have H1 : (berthref13_part.l0 kj6 l2 ((rd_T45 l0_0 a1).f0) (wrap64 ((l2.length : Int) - (((rd_T45 l0_0 a1).f3).length : Int))) 0 l0_0 ((rd_T45 l0_0 a1).f0) ((rd_T45 l0_0 a1).f1) ((rd_T45 l0_0 a1).f2) ((rd_T45 l0_0 a1).f3)) = some r := by rw [if_pos rfl] at H; exact H
              clear H
              have H := H1
              clear H1
              have H' := Aside0.mk H
              clear H
              have hnb21 := NB215_213.out
              have hnc21 := NB213_215.out
              have hcz22_0 : wc.cell? ⟨gb215, 0, none⟩ = some (.int .i64 ((rd_T45 l0_0 a1).f0)) := (blk_cell BK215.out 0).trans rfl
              have hcz22_1 : wc.cell? ⟨gb215, 1, none⟩ = some (.string ((rd_T45 l0_0 a1).f1)) := (blk_cell BK215.out 1).trans rfl
              have hcz22_2 : wc.cell? ⟨gb215, 2, none⟩ = some (.int .i64 ((rd_T45 l0_0 a1).f2)) := (blk_cell BK215.out 2).trans rfl
              have hcz22_3 : wc.cell? ⟨gb215, 3, none⟩ = some (.slice A214_3 ((rd_T45 l0_0 a1).f3).length c214_3) := (blk_cell BK215.out 3).trans rfl
              have hfz22_0 := blk_frozen BK215.out 0
              have hfz22_1 := blk_frozen BK215.out 1
              have hfz22_2 := blk_frozen BK215.out 2
              have hfz22_3 := blk_frozen BK215.out 3
              go_wp2_with (first | (go_at_call 47; (with_reducible refine (berthref13_holds.calls kj6 ((rd_T45 l0_0 a1).f0) ((rd_T45 l0_0 a1).f1) ((rd_T45 l0_0 a1).f2) _ _ ((rd_T45 l0_0 a1).f3) true _ ?side1 ?side2 A19.out).mono ?_); (case side1 => repeat (first | exact (Kd.C_below HR214_3.out HB.out) | (with_reducible refine Kd.C_alloc ?_ _) | (with_reducible refine Kd.C_drewN ?_ _) | (with_reducible refine Kd.C_drew ?_))); (case side2 => exact HC214_3.out); rintro e w23 ⟨rfl, hb⟩; have n0_ := Aside0.mk (blk_below (g := gb213) (o := .cells #[.slice (some ad214) l0_0.length c0_0] 24 (0, 0)) (by (with_reducible repeat (first | refine blk_drewN ?_ _ | refine blk_drew ?_ | refine blk_alloc ?_ _)); exact BK213.out) hb); have n1_ := Aside0.mk (blk_below (g := gb215) (o := .cells #[.int .i64 ((rd_T45 l0_0 a1).f0), .string ((rd_T45 l0_0 a1).f1), .int .i64 ((rd_T45 l0_0 a1).f2), .slice A214_3 ((rd_T45 l0_0 a1).f3).length c214_3] 45 (0, 0)) (by (with_reducible repeat (first | refine blk_drewN ?_ _ | refine blk_drew ?_ | refine blk_alloc ?_ _)); exact BK215.out) hb); have n2_ := Aside0.mk (below_step (by repeat (first | (with_reducible first | exact HB.out | apply below_alloc | apply pw_below_drewN | apply below_drew1 | refine below_set ?_ GE213.out | refine below_set ?_ GE215.out) | exact HB.out)) hb); clear BK213; clear BK215; clear HB; have BK213 := n0_; have BK215 := n1_; have HB := n2_; clear n0_ n1_ n2_; (try clear hb); (try clear hb2); (try clear hk); (try clear hi); have hcz24_0 : w23.cell? ⟨gb215, 0, none⟩ = some (.int .i64 ((rd_T45 l0_0 a1).f0)) := (blk_cell BK215.out 0).trans rfl; have hcz24_1 : w23.cell? ⟨gb215, 1, none⟩ = some (.string ((rd_T45 l0_0 a1).f1)) := (blk_cell BK215.out 1).trans rfl; have hcz24_2 : w23.cell? ⟨gb215, 2, none⟩ = some (.int .i64 ((rd_T45 l0_0 a1).f2)) := (blk_cell BK215.out 2).trans rfl; have hcz24_3 : w23.cell? ⟨gb215, 3, none⟩ = some (.slice A214_3 ((rd_T45 l0_0 a1).f3).length c214_3) := (blk_cell BK215.out 3).trans rfl; have hfz24_0 := blk_frozen BK215.out 0; have hfz24_1 := blk_frozen BK215.out 1; have hfz24_2 := blk_frozen BK215.out 2; have hfz24_3 := blk_frozen BK215.out 3))
              repeat (go_quiet (first | (go_at_call 47; (with_reducible refine (berthref13_holds.calls kj6 ((rd_T45 l0_0 a1).f0) ((rd_T45 l0_0 a1).f1) ((rd_T45 l0_0 a1).f2) _ _ ((rd_T45 l0_0 a1).f3) true _ ?side1 ?side2 A19.out).mono ?_); (case side1 => repeat (first | exact (Kd.C_below HR214_3.out HB.out) | (with_reducible refine Kd.C_alloc ?_ _) | (with_reducible refine Kd.C_drewN ?_ _) | (with_reducible refine Kd.C_drew ?_))); (case side2 => exact HC214_3.out); rintro e w23 ⟨rfl, hb⟩; have n0_ := Aside0.mk (blk_below (g := gb213) (o := .cells #[.slice (some ad214) l0_0.length c0_0] 24 (0, 0)) (by (with_reducible repeat (first | refine blk_drewN ?_ _ | refine blk_drew ?_ | refine blk_alloc ?_ _)); exact BK213.out) hb); have n1_ := Aside0.mk (blk_below (g := gb215) (o := .cells #[.int .i64 ((rd_T45 l0_0 a1).f0), .string ((rd_T45 l0_0 a1).f1), .int .i64 ((rd_T45 l0_0 a1).f2), .slice A214_3 ((rd_T45 l0_0 a1).f3).length c214_3] 45 (0, 0)) (by (with_reducible repeat (first | refine blk_drewN ?_ _ | refine blk_drew ?_ | refine blk_alloc ?_ _)); exact BK215.out) hb); have n2_ := Aside0.mk (below_step (by repeat (first | (with_reducible first | exact HB.out | apply below_alloc | apply pw_below_drewN | apply below_drew1 | refine below_set ?_ GE213.out | refine below_set ?_ GE215.out) | exact HB.out)) hb); clear BK213; clear BK215; clear HB; have BK213 := n0_; have BK215 := n1_; have HB := n2_; clear n0_ n1_ n2_; (try clear hb); (try clear hb2); (try clear hk); (try clear hi); have hcz24_0 : w23.cell? ⟨gb215, 0, none⟩ = some (.int .i64 ((rd_T45 l0_0 a1).f0)) := (blk_cell BK215.out 0).trans rfl; have hcz24_1 : w23.cell? ⟨gb215, 1, none⟩ = some (.string ((rd_T45 l0_0 a1).f1)) := (blk_cell BK215.out 1).trans rfl; have hcz24_2 : w23.cell? ⟨gb215, 2, none⟩ = some (.int .i64 ((rd_T45 l0_0 a1).f2)) := (blk_cell BK215.out 2).trans rfl; have hcz24_3 : w23.cell? ⟨gb215, 3, none⟩ = some (.slice A214_3 ((rd_T45 l0_0 a1).f3).length c214_3) := (blk_cell BK215.out 3).trans rfl; have hfz24_0 := blk_frozen BK215.out 0; have hfz24_1 := blk_frozen BK215.out 1; have hfz24_2 := blk_frozen BK215.out 2; have hfz24_3 := blk_frozen BK215.out 3)); try go_wp2_with (first | (go_at_call 47; (with_reducible refine (berthref13_holds.calls kj6 ((rd_T45 l0_0 a1).f0) ((rd_T45 l0_0 a1).f1) ((rd_T45 l0_0 a1).f2) _ _ ((rd_T45 l0_0 a1).f3) true _ ?side1 ?side2 A19.out).mono ?_); (case side1 => repeat (first | exact (Kd.C_below HR214_3.out HB.out) | (with_reducible refine Kd.C_alloc ?_ _) | (with_reducible refine Kd.C_drewN ?_ _) | (with_reducible refine Kd.C_drew ?_))); (case side2 => exact HC214_3.out); rintro e w23 ⟨rfl, hb⟩; have n0_ := Aside0.mk (blk_below (g := gb213) (o := .cells #[.slice (some ad214) l0_0.length c0_0] 24 (0, 0)) (by (with_reducible repeat (first | refine blk_drewN ?_ _ | refine blk_drew ?_ | refine blk_alloc ?_ _)); exact BK213.out) hb); have n1_ := Aside0.mk (blk_below (g := gb215) (o := .cells #[.int .i64 ((rd_T45 l0_0 a1).f0), .string ((rd_T45 l0_0 a1).f1), .int .i64 ((rd_T45 l0_0 a1).f2), .slice A214_3 ((rd_T45 l0_0 a1).f3).length c214_3] 45 (0, 0)) (by (with_reducible repeat (first | refine blk_drewN ?_ _ | refine blk_drew ?_ | refine blk_alloc ?_ _)); exact BK215.out) hb); have n2_ := Aside0.mk (below_step (by repeat (first | (with_reducible first | exact HB.out | apply below_alloc | apply pw_below_drewN | apply below_drew1 | refine below_set ?_ GE213.out | refine below_set ?_ GE215.out) | exact HB.out)) hb); clear BK213; clear BK215; clear HB; have BK213 := n0_; have BK215 := n1_; have HB := n2_; clear n0_ n1_ n2_; (try clear hb); (try clear hb2); (try clear hk); (try clear hi); have hcz24_0 : w23.cell? ⟨gb215, 0, none⟩ = some (.int .i64 ((rd_T45 l0_0 a1).f0)) := (blk_cell BK215.out 0).trans rfl; have hcz24_1 : w23.cell? ⟨gb215, 1, none⟩ = some (.string ((rd_T45 l0_0 a1).f1)) := (blk_cell BK215.out 1).trans rfl; have hcz24_2 : w23.cell? ⟨gb215, 2, none⟩ = some (.int .i64 ((rd_T45 l0_0 a1).f2)) := (blk_cell BK215.out 2).trans rfl; have hcz24_3 : w23.cell? ⟨gb215, 3, none⟩ = some (.slice A214_3 ((rd_T45 l0_0 a1).f3).length c214_3) := (blk_cell BK215.out 3).trans rfl; have hfz24_0 := blk_frozen BK215.out 0; have hfz24_1 := blk_frozen BK215.out 1; have hfz24_2 := blk_frozen BK215.out 2; have hfz24_3 := blk_frozen BK215.out 3)))
              go_loopg [11] kj6 (fun kq v11 w' => ∃ (x11_2 : Int), v11 = .int .i64 x11_2 ∧ Aside0 (berthref13_part.l0 kq l2 ((rd_T45 l0_0 a1).f0) (wrap64 ((l2.length : Int) - (((rd_T45 l0_0 a1).f3).length : Int))) x11_2 l0_0 ((rd_T45 l0_0 a1).f0) ((rd_T45 l0_0 a1).f1) ((rd_T45 l0_0 a1).f2) ((rd_T45 l0_0 a1).f3) = some r) ∧ Aside0 (kq ≤ kj6) ∧ Aside0 (w'.heap[gb213]? = some (.cells #[(.slice (some ad214) l0_0.length c0_0)] 24 (0, 0))) ∧ Aside0 (w'.heap[gb215]? = some (.cells #[.int .i64 ((rd_T45 l0_0 a1).f0), .string ((rd_T45 l0_0 a1).f1), .int .i64 ((rd_T45 l0_0 a1).f2), (.slice A214_3 ((rd_T45 l0_0 a1).f3).length c214_3)] 45 (0, 0))) ∧ Aside0 (Below w.heap.size w w'))
              case atStart => exact ⟨(0), (by first | rfl | (simp; done) | (simp [*]; done)), H', ⟨Nat.le_refl _⟩, ⟨by (with_reducible repeat (first | refine blk_drewN ?_ _ | refine blk_drew ?_ | refine blk_alloc ?_ _)); exact BK213.out⟩, ⟨by (with_reducible repeat (first | refine blk_drewN ?_ _ | refine blk_drew ?_ | refine blk_alloc ?_ _)); exact BK215.out⟩, ⟨by repeat (first | (with_reducible first | exact HB.out | apply below_alloc | apply pw_below_drewN | apply below_drew1 | refine below_set ?_ GE213.out | refine below_set ?_ GE215.out) | exact HB.out)⟩⟩
              case round =>
                clear H'
                try clear c1
                try clear c2
                try clear p2
                try clear q2
                try clear hx2
                try clear c3
                try clear c4
                try clear c4b0
                try clear c5
                try clear c5b0
                try clear p6
                try clear c11
                try clear c13
                try clear c14
                try clear c14b0
                try clear c15
                try clear c15b0
                try clear c16
                try clear c18
                try clear c20
                try clear c21
                try clear p21
                try clear q21
                try clear hx21
                try clear hcz12_0
                try clear hcz12_1
                try clear hcz12_2
                try clear hcz12_3
                try clear hcz17_0
                try clear hcz17_1
                try clear hcz17_2
                try clear hcz17_3
                try clear hcz22_0
                try clear hcz22_1
                try clear hcz22_2
                try clear hcz22_3
                try clear hcz24_0
                try clear hcz24_1
                try clear hcz24_2
                try clear hcz24_3
                try clear hcz9_0
                try clear hfz12_0
                try clear hfz12_1
                try clear hfz12_2
                try clear hfz12_3
                try clear hfz17_0
                try clear hfz17_1
                try clear hfz17_2
                try clear hfz17_3
                try clear hfz22_0
                try clear hfz22_1
                try clear hfz22_2
                try clear hfz22_3
                try clear hfz24_0
                try clear hfz24_1
                try clear hfz24_2
                try clear hfz24_3
                try clear hfz9_0
                try clear hx214_0
                try clear hx214_1
                try clear hx214_2
                try clear hx214_3
                try clear p2
                try clear p214
                try clear q2
                try clear q214
                obtain ⟨x11_2, rfl, HA, HK2, BK213, BK215, HB⟩ := hrel
                cases gk with
                | zero => exact absurd HA.out (by simp [berthref13_part.l0])
                | succ k2 =>
                  have H := HA.out
                  clear HA
                  simp only [berthref13_part.l0] at H
                  by_cases c25 : x11_2 < (((rd_T45 l0_0 a1).f3).length : Int)
                  · rw [if_pos c25] at H
                    have c25b0 : decide (x11_2 < (((rd_T45 l0_0 a1).f3).length : Int)) = true := decide_eq_true c25
                    clear c25
                    by_cases c26 : 0 ≤ x11_2
                    · rw [if_pos c26] at H
                      have c26b0 : decide (0 ≤ x11_2) = true := decide_eq_true c26
                      clear c26
                      obtain ⟨ji27, hji27⟩ : ∃ j_ : Int, (wrap64 ((wrap64 ((l2.length : Int) - (((rd_T45 l0_0 a1).f3).length : Int))) + x11_2)) = j_ := ⟨_, rfl⟩
                      replace H : (if 0 ≤ (ji27) then (if (ji27) < (l2.length : Int) then (if (rd ((rd_T45 l0_0 a1).f3) x11_2) = (rd l2 (ji27)) then (if 0 ≤ (rd ((rd_T45 l0_0 a1).f3) x11_2) then (if (rd ((rd_T45 l0_0 a1).f3) x11_2) < (l0_0.length : Int) then ((berthref13_class.f k2 ((rd_T45 l0_0 a1).f0) ((rd_T45 l0_0 (rd ((rd_T45 l0_0 a1).f3) x11_2)).f0)).bind fun t222 => (if t222 = true then (berthref13_part.l0 k2 l2 ((rd_T45 l0_0 a1).f0) (wrap64 ((l2.length : Int) - (((rd_T45 l0_0 a1).f3).length : Int))) (wrap64 (x11_2 + 1)) l0_0 ((rd_T45 l0_0 a1).f0) ((rd_T45 l0_0 a1).f1) ((rd_T45 l0_0 a1).f2) ((rd_T45 l0_0 a1).f3)) else (some false))) else (none)) else (none)) else (some false)) else (none)) else (none)) = some r := by first | (rw [hji27] at H; exact H) | (simp only [hji27] at H ⊢; exact H)
                      have hji27w : (IntKind.i64.wrap ((wrap64 ((l2.length : Int) - (((rd_T45 l0_0 a1).f3).length : Int))) + x11_2)) = ji27 := (i64_w _).trans hji27
                      by_cases c28 : 0 ≤ (ji27)
                      · rw [if_pos c28] at H
                        have c28b0 : decide (0 ≤ (ji27)) = true := decide_eq_true c28
                        clear c28
                        by_cases c29 : (ji27) < (l2.length : Int)
                        · rw [if_pos c29] at H
                          have c29b0 : decide ((ji27) < (l2.length : Int)) = true := decide_eq_true c29
                          clear c29
                          by_cases c30 : (rd ((rd_T45 l0_0 a1).f3) x11_2) = (rd l2 (ji27))
                          · rw [if_pos c30] at H
                            have c30b0 : ((rd ((rd_T45 l0_0 a1).f3) x11_2) == (rd l2 (ji27))) = true := beq_iff_eq.mpr c30
                            have c30b1 : ((rd ((rd_T45 l0_0 a1).f3) x11_2) != (rd l2 (ji27))) = false := bne_eq_false_iff_eq.mpr c30
                            clear c30
                            by_cases c31 : 0 ≤ (rd ((rd_T45 l0_0 a1).f3) x11_2)
                            · rw [if_pos c31] at H
                              have c31b0 : decide (0 ≤ (rd ((rd_T45 l0_0 a1).f3) x11_2)) = true := decide_eq_true c31
                              clear c31
                              by_cases c32 : (rd ((rd_T45 l0_0 a1).f3) x11_2) < (l0_0.length : Int)
                              · rw [if_pos c32] at H
                                have c32b0 : decide ((rd ((rd_T45 l0_0 a1).f3) x11_2) < (l0_0.length : Int)) = true := decide_eq_true c32
                                clear c32
                                replace H := Option.bind_eq_some_iff.mp H
                                obtain ⟨t222, A330, H⟩ := H
                                replace H : (if t222 = true then (berthref13_part.l0 k2 l2 ((rd_T45 l0_0 a1).f0) (wrap64 ((l2.length : Int) - (((rd_T45 l0_0 a1).f3).length : Int))) (wrap64 (x11_2 + 1)) l0_0 ((rd_T45 l0_0 a1).f0) ((rd_T45 l0_0 a1).f1) ((rd_T45 l0_0 a1).f2) ((rd_T45 l0_0 a1).f3)) else (some false)) = some r := H
                                have A33 := Aside0.mk A330
                                clear A330
                                by_cases c34 : t222 = true
                                · subst c34
                                  have H1 : (berthref13_part.l0 k2 l2 ((rd_T45 l0_0 a1).f0) (wrap64 ((l2.length : Int) - (((rd_T45 l0_0 a1).f3).length : Int))) (wrap64 (x11_2 + 1)) l0_0 ((rd_T45 l0_0 a1).f0) ((rd_T45 l0_0 a1).f1) ((rd_T45 l0_0 a1).f2) ((rd_T45 l0_0 a1).f3)) = some r := by rw [if_pos rfl] at H; exact H
                                  clear H
                                  have H := H1
                                  clear H1
                                  have H' := Aside0.mk H
                                  clear H
                                  have hnb35 := NB215_213.out
                                  have hnc35 := NB213_215.out
                                  have hcz36_0 : wr.cell? ⟨gb215, 0, none⟩ = some (.int .i64 ((rd_T45 l0_0 a1).f0)) := (blk_cell BK215.out 0).trans rfl
                                  have hcz36_1 : wr.cell? ⟨gb215, 1, none⟩ = some (.string ((rd_T45 l0_0 a1).f1)) := (blk_cell BK215.out 1).trans rfl
                                  have hcz36_2 : wr.cell? ⟨gb215, 2, none⟩ = some (.int .i64 ((rd_T45 l0_0 a1).f2)) := (blk_cell BK215.out 2).trans rfl
                                  have hcz36_3 : wr.cell? ⟨gb215, 3, none⟩ = some (.slice A214_3 ((rd_T45 l0_0 a1).f3).length c214_3) := (blk_cell BK215.out 3).trans rfl
                                  have hfz36_0 := blk_frozen BK215.out 0
                                  have hfz36_1 := blk_frozen BK215.out 1
                                  have hfz36_2 := blk_frozen BK215.out 2
                                  have hfz36_3 := blk_frozen BK215.out 3
                                  have p218 : 0 ≤ (x11_2 : Int) := of_decide_eq_true (by first | (with_reducible assumption) | assumption)
                                  have q218 : x11_2 < (((rd_T45 l0_0 a1).f3).length : Int) := of_decide_eq_true (by first | (with_reducible assumption) | assumption)
                                  obtain ⟨ad218, e218, hx218_0⟩ := Kd.at_int HR214_3.out x11_2 p218 q218
                                  cases e218
                                  replace hx218_0 := (HB.out.cell (World.block_lt_of_cell? w _ hx218_0)).trans hx218_0
                                  replace p218 := eq_true p218
                                  replace q218 := eq_true q218
                                  have p219 : 0 ≤ ((ji27) : Int) := of_decide_eq_true (by first | (with_reducible assumption) | assumption)
                                  have q219 : (ji27) < (l2.length : Int) := of_decide_eq_true (by first | (with_reducible assumption) | assumption)
                                  obtain ⟨ad219, e219, hx219_0⟩ := Kd.at_int HR2.out (ji27) p219 q219
                                  cases e219
                                  replace hx219_0 := (HB.out.cell (World.block_lt_of_cell? w _ hx219_0)).trans hx219_0
                                  replace p219 := eq_true p219
                                  replace q219 := eq_true q219
                                  have hcz37_0 : wr.cell? ⟨gb213, 0, none⟩ = some (.slice (some ad214) l0_0.length c0_0) := (blk_cell BK213.out 0).trans rfl
                                  have hfz37_0 := blk_frozen BK213.out 0
                                  have p220 : 0 ≤ (x11_2 : Int) := of_decide_eq_true (by first | (with_reducible assumption) | assumption)
                                  have q220 : x11_2 < (((rd_T45 l0_0 a1).f3).length : Int) := of_decide_eq_true (by first | (with_reducible assumption) | assumption)
                                  obtain ⟨ad220, e220, hx220_0⟩ := Kd.at_int HR214_3.out x11_2 p220 q220
                                  obtain rfl : ad218 = ad220 := (by injection e220)
                                  replace hx220_0 := (HB.out.cell (World.block_lt_of_cell? w _ hx220_0)).trans hx220_0
                                  replace p220 := eq_true p220
                                  replace q220 := eq_true q220
                                  have p221 : 0 ≤ ((rd ((rd_T45 l0_0 a1).f3) x11_2) : Int) := of_decide_eq_true (by first | (with_reducible assumption) | assumption)
                                  have q221 : (rd ((rd_T45 l0_0 a1).f3) x11_2) < (l0_0.length : Int) := of_decide_eq_true (by first | (with_reducible assumption) | assumption)
                                  obtain ⟨ad221, A221_3, c221_3, e221, hx221_0, hx221_1, hx221_2, hx221_3, hl221_3, hi221_3⟩ := at_T45 HR0_0.out (rd ((rd_T45 l0_0 a1).f3) x11_2) p221 q221
                                  obtain rfl : ad214 = ad221 := (by injection e221)
                                  replace hx221_0 := (HB.out.cell (World.block_lt_of_cell? w _ hx221_0)).trans hx221_0
                                  replace hx221_1 := (HB.out.cell (World.block_lt_of_cell? w _ hx221_1)).trans hx221_1
                                  replace hx221_2 := (HB.out.cell (World.block_lt_of_cell? w _ hx221_2)).trans hx221_2
                                  replace hx221_3 := (HB.out.cell (World.block_lt_of_cell? w _ hx221_3)).trans hx221_3
                                  have HR221_3 := Aside0.mk hi221_3
                                  have HC221_3 := Aside0.mk hl221_3
                                  clear hi221_3 hl221_3
                                  replace p221 := eq_true p221
                                  replace q221 := eq_true q221
                                  go_wp2_with (first | (go_at_call 48; (with_reducible refine (berthref13_class.calls k2 ((rd_T45 l0_0 a1).f0) ((rd_T45 l0_0 (rd ((rd_T45 l0_0 a1).f3) x11_2)).f0) true _ A33.out).mono ?_); rintro e w' ⟨rfl, ⟨nd, rfl⟩⟩; (try first | exact ⟨rfl, _, World.drewN_drewN _ _ _⟩ | exact ⟨rfl, _, Eq.trans (World.drewN_drewN _ _ _) (congrArg (World.drewN _) (Nat.add_assoc _ _ _))⟩)))
                                  repeat (go_quiet (first | (go_at_call 48; (with_reducible refine (berthref13_class.calls k2 ((rd_T45 l0_0 a1).f0) ((rd_T45 l0_0 (rd ((rd_T45 l0_0 a1).f3) x11_2)).f0) true _ A33.out).mono ?_); rintro e w' ⟨rfl, ⟨nd, rfl⟩⟩; (try first | exact ⟨rfl, _, World.drewN_drewN _ _ _⟩ | exact ⟨rfl, _, Eq.trans (World.drewN_drewN _ _ _) (congrArg (World.drewN _) (Nat.add_assoc _ _ _))⟩))); try go_wp2_with (first | (go_at_call 48; (with_reducible refine (berthref13_class.calls k2 ((rd_T45 l0_0 a1).f0) ((rd_T45 l0_0 (rd ((rd_T45 l0_0 a1).f3) x11_2)).f0) true _ A33.out).mono ?_); rintro e w' ⟨rfl, ⟨nd, rfl⟩⟩; (try first | exact ⟨rfl, _, World.drewN_drewN _ _ _⟩ | exact ⟨rfl, _, Eq.trans (World.drewN_drewN _ _ _) (congrArg (World.drewN _) (Nat.add_assoc _ _ _))⟩))))
                                  go_roundg k2
                                  case measure => have := HJ6.out; have := HK2.out; omega
                                  case rel => exact ⟨(wrap64 (x11_2 + 1)), (by first | rfl | (simp; done) | (simp [*]; done)), H', ⟨by have := HJ6.out; have := HK2.out; omega⟩, ⟨by (with_reducible repeat (first | refine blk_drewN ?_ _ | refine blk_drew ?_ | refine blk_alloc ?_ _)); exact BK213.out⟩, ⟨by (with_reducible repeat (first | refine blk_drewN ?_ _ | refine blk_drew ?_ | refine blk_alloc ?_ _)); exact BK215.out⟩, ⟨by repeat (first | (with_reducible first | exact HB.out | apply below_alloc | apply pw_below_drewN | apply below_drew1 | refine below_set ?_ GE213.out | refine below_set ?_ GE215.out) | exact HB.out)⟩⟩
                                · replace c34 := Bool.eq_false_iff.mpr c34
                                  subst c34
                                  have H1 : (some false) = some r := by rw [if_neg (show ¬ (false = true) by decide)] at H; exact H
                                  clear H
                                  have H := H1
                                  clear H1
                                  obtain rfl := Option.some.inj H
                                  have hnb38 := NB215_213.out
                                  have hnc38 := NB213_215.out
                                  have hcz39_0 : wr.cell? ⟨gb215, 0, none⟩ = some (.int .i64 ((rd_T45 l0_0 a1).f0)) := (blk_cell BK215.out 0).trans rfl
                                  have hcz39_1 : wr.cell? ⟨gb215, 1, none⟩ = some (.string ((rd_T45 l0_0 a1).f1)) := (blk_cell BK215.out 1).trans rfl
                                  have hcz39_2 : wr.cell? ⟨gb215, 2, none⟩ = some (.int .i64 ((rd_T45 l0_0 a1).f2)) := (blk_cell BK215.out 2).trans rfl
                                  have hcz39_3 : wr.cell? ⟨gb215, 3, none⟩ = some (.slice A214_3 ((rd_T45 l0_0 a1).f3).length c214_3) := (blk_cell BK215.out 3).trans rfl
                                  have hfz39_0 := blk_frozen BK215.out 0
                                  have hfz39_1 := blk_frozen BK215.out 1
                                  have hfz39_2 := blk_frozen BK215.out 2
                                  have hfz39_3 := blk_frozen BK215.out 3
                                  have p218 : 0 ≤ (x11_2 : Int) := of_decide_eq_true (by first | (with_reducible assumption) | assumption)
                                  have q218 : x11_2 < (((rd_T45 l0_0 a1).f3).length : Int) := of_decide_eq_true (by first | (with_reducible assumption) | assumption)
                                  obtain ⟨ad218, e218, hx218_0⟩ := Kd.at_int HR214_3.out x11_2 p218 q218
                                  cases e218
                                  replace hx218_0 := (HB.out.cell (World.block_lt_of_cell? w _ hx218_0)).trans hx218_0
                                  replace p218 := eq_true p218
                                  replace q218 := eq_true q218
                                  have p219 : 0 ≤ ((ji27) : Int) := of_decide_eq_true (by first | (with_reducible assumption) | assumption)
                                  have q219 : (ji27) < (l2.length : Int) := of_decide_eq_true (by first | (with_reducible assumption) | assumption)
                                  obtain ⟨ad219, e219, hx219_0⟩ := Kd.at_int HR2.out (ji27) p219 q219
                                  cases e219
                                  replace hx219_0 := (HB.out.cell (World.block_lt_of_cell? w _ hx219_0)).trans hx219_0
                                  replace p219 := eq_true p219
                                  replace q219 := eq_true q219
                                  have hcz40_0 : wr.cell? ⟨gb213, 0, none⟩ = some (.slice (some ad214) l0_0.length c0_0) := (blk_cell BK213.out 0).trans rfl
                                  have hfz40_0 := blk_frozen BK213.out 0
                                  have p220 : 0 ≤ (x11_2 : Int) := of_decide_eq_true (by first | (with_reducible assumption) | assumption)
                                  have q220 : x11_2 < (((rd_T45 l0_0 a1).f3).length : Int) := of_decide_eq_true (by first | (with_reducible assumption) | assumption)
                                  obtain ⟨ad220, e220, hx220_0⟩ := Kd.at_int HR214_3.out x11_2 p220 q220
                                  obtain rfl : ad218 = ad220 := (by injection e220)
                                  replace hx220_0 := (HB.out.cell (World.block_lt_of_cell? w _ hx220_0)).trans hx220_0
                                  replace p220 := eq_true p220
                                  replace q220 := eq_true q220
                                  have p221 : 0 ≤ ((rd ((rd_T45 l0_0 a1).f3) x11_2) : Int) := of_decide_eq_true (by first | (with_reducible assumption) | assumption)
                                  have q221 : (rd ((rd_T45 l0_0 a1).f3) x11_2) < (l0_0.length : Int) := of_decide_eq_true (by first | (with_reducible assumption) | assumption)
                                  obtain ⟨ad221, A221_3, c221_3, e221, hx221_0, hx221_1, hx221_2, hx221_3, hl221_3, hi221_3⟩ := at_T45 HR0_0.out (rd ((rd_T45 l0_0 a1).f3) x11_2) p221 q221
                                  obtain rfl : ad214 = ad221 := (by injection e221)
                                  replace hx221_0 := (HB.out.cell (World.block_lt_of_cell? w _ hx221_0)).trans hx221_0
                                  replace hx221_1 := (HB.out.cell (World.block_lt_of_cell? w _ hx221_1)).trans hx221_1
                                  replace hx221_2 := (HB.out.cell (World.block_lt_of_cell? w _ hx221_2)).trans hx221_2
                                  replace hx221_3 := (HB.out.cell (World.block_lt_of_cell? w _ hx221_3)).trans hx221_3
                                  have HR221_3 := Aside0.mk hi221_3
                                  have HC221_3 := Aside0.mk hl221_3
                                  clear hi221_3 hl221_3
                                  replace p221 := eq_true p221
                                  replace q221 := eq_true q221
                                  go_wp2_with (first | (go_at_call 48; (with_reducible refine (berthref13_class.calls k2 ((rd_T45 l0_0 a1).f0) ((rd_T45 l0_0 (rd ((rd_T45 l0_0 a1).f3) x11_2)).f0) false _ A33.out).mono ?_); rintro e w' ⟨rfl, ⟨nd, rfl⟩⟩; (try first | exact ⟨rfl, _, World.drewN_drewN _ _ _⟩ | exact ⟨rfl, _, Eq.trans (World.drewN_drewN _ _ _) (congrArg (World.drewN _) (Nat.add_assoc _ _ _))⟩)))
                                  repeat (go_quiet (first | (go_at_call 48; (with_reducible refine (berthref13_class.calls k2 ((rd_T45 l0_0 a1).f0) ((rd_T45 l0_0 (rd ((rd_T45 l0_0 a1).f3) x11_2)).f0) false _ A33.out).mono ?_); rintro e w' ⟨rfl, ⟨nd, rfl⟩⟩; (try first | exact ⟨rfl, _, World.drewN_drewN _ _ _⟩ | exact ⟨rfl, _, Eq.trans (World.drewN_drewN _ _ _) (congrArg (World.drewN _) (Nat.add_assoc _ _ _))⟩))); try go_wp2_with (first | (go_at_call 48; (with_reducible refine (berthref13_class.calls k2 ((rd_T45 l0_0 a1).f0) ((rd_T45 l0_0 (rd ((rd_T45 l0_0 a1).f3) x11_2)).f0) false _ A33.out).mono ?_); rintro e w' ⟨rfl, ⟨nd, rfl⟩⟩; (try first | exact ⟨rfl, _, World.drewN_drewN _ _ _⟩ | exact ⟨rfl, _, Eq.trans (World.drewN_drewN _ _ _) (congrArg (World.drewN _) (Nat.add_assoc _ _ _))⟩))))
                                  go_ret
                                  exact ⟨by first | rfl | (simp [errW_none, errW_some] <;> rfl) | (simp only [← hji27]; first | rfl | (simp [errW_none, errW_some] <;> rfl)) | (simp [*, errW_none, errW_some] <;> rfl), by repeat (first | (with_reducible first | exact HB.out | apply below_alloc | apply pw_below_drewN | apply below_drew1 | refine below_set ?_ GE213.out | refine below_set ?_ GE215.out) | exact HB.out)⟩
                              · rw [if_neg c32] at H
                                exact absurd H (by simp)
                            · rw [if_neg c31] at H
                              exact absurd H (by simp)
                          · rw [if_neg c30] at H
                            have c30b0 : ((rd ((rd_T45 l0_0 a1).f3) x11_2) == (rd l2 (ji27))) = false := beq_eq_false_iff_ne.mpr c30
                            have c30b1 : ((rd ((rd_T45 l0_0 a1).f3) x11_2) != (rd l2 (ji27))) = true := bne_iff_ne.mpr c30
                            obtain rfl := Option.some.inj H
                            have hnb41 := NB215_213.out
                            have hnc41 := NB213_215.out
                            have hcz42_0 : wr.cell? ⟨gb215, 0, none⟩ = some (.int .i64 ((rd_T45 l0_0 a1).f0)) := (blk_cell BK215.out 0).trans rfl
                            have hcz42_1 : wr.cell? ⟨gb215, 1, none⟩ = some (.string ((rd_T45 l0_0 a1).f1)) := (blk_cell BK215.out 1).trans rfl
                            have hcz42_2 : wr.cell? ⟨gb215, 2, none⟩ = some (.int .i64 ((rd_T45 l0_0 a1).f2)) := (blk_cell BK215.out 2).trans rfl
                            have hcz42_3 : wr.cell? ⟨gb215, 3, none⟩ = some (.slice A214_3 ((rd_T45 l0_0 a1).f3).length c214_3) := (blk_cell BK215.out 3).trans rfl
                            have hfz42_0 := blk_frozen BK215.out 0
                            have hfz42_1 := blk_frozen BK215.out 1
                            have hfz42_2 := blk_frozen BK215.out 2
                            have hfz42_3 := blk_frozen BK215.out 3
                            have p218 : 0 ≤ (x11_2 : Int) := of_decide_eq_true (by first | (with_reducible assumption) | assumption)
                            have q218 : x11_2 < (((rd_T45 l0_0 a1).f3).length : Int) := of_decide_eq_true (by first | (with_reducible assumption) | assumption)
                            obtain ⟨ad218, e218, hx218_0⟩ := Kd.at_int HR214_3.out x11_2 p218 q218
                            cases e218
                            replace hx218_0 := (HB.out.cell (World.block_lt_of_cell? w _ hx218_0)).trans hx218_0
                            replace p218 := eq_true p218
                            replace q218 := eq_true q218
                            have p219 : 0 ≤ ((ji27) : Int) := of_decide_eq_true (by first | (with_reducible assumption) | assumption)
                            have q219 : (ji27) < (l2.length : Int) := of_decide_eq_true (by first | (with_reducible assumption) | assumption)
                            obtain ⟨ad219, e219, hx219_0⟩ := Kd.at_int HR2.out (ji27) p219 q219
                            cases e219
                            replace hx219_0 := (HB.out.cell (World.block_lt_of_cell? w _ hx219_0)).trans hx219_0
                            replace p219 := eq_true p219
                            replace q219 := eq_true q219
                            go_wp2
                            repeat (go_quiet (fail); try go_wp2)
                            go_ret
                            exact ⟨by first | rfl | (simp [errW_none, errW_some] <;> rfl) | (simp only [← hji27]; first | rfl | (simp [errW_none, errW_some] <;> rfl)) | (simp [*, errW_none, errW_some] <;> rfl), by repeat (first | (with_reducible first | exact HB.out | apply below_alloc | apply pw_below_drewN | apply below_drew1 | refine below_set ?_ GE213.out | refine below_set ?_ GE215.out) | exact HB.out)⟩
                        · rw [if_neg c29] at H
                          exact absurd H (by simp)
                      · rw [if_neg c28] at H
                        exact absurd H (by simp)
                    · rw [if_neg c26] at H
                      exact absurd H (by simp)
                  · rw [if_neg c25] at H
                    have c25b0 : decide (x11_2 < (((rd_T45 l0_0 a1).f3).length : Int)) = false := decide_eq_false c25
                    clear c25
                    obtain rfl := Option.some.inj H
                    have hnb43 := NB215_213.out
                    have hnc43 := NB213_215.out
                    have hcz44_0 : wr.cell? ⟨gb215, 0, none⟩ = some (.int .i64 ((rd_T45 l0_0 a1).f0)) := (blk_cell BK215.out 0).trans rfl
                    have hcz44_1 : wr.cell? ⟨gb215, 1, none⟩ = some (.string ((rd_T45 l0_0 a1).f1)) := (blk_cell BK215.out 1).trans rfl
                    have hcz44_2 : wr.cell? ⟨gb215, 2, none⟩ = some (.int .i64 ((rd_T45 l0_0 a1).f2)) := (blk_cell BK215.out 2).trans rfl
                    have hcz44_3 : wr.cell? ⟨gb215, 3, none⟩ = some (.slice A214_3 ((rd_T45 l0_0 a1).f3).length c214_3) := (blk_cell BK215.out 3).trans rfl
                    have hfz44_0 := blk_frozen BK215.out 0
                    have hfz44_1 := blk_frozen BK215.out 1
                    have hfz44_2 := blk_frozen BK215.out 2
                    have hfz44_3 := blk_frozen BK215.out 3
                    go_wp2
                    repeat (go_quiet (fail); try go_wp2)
                    go_ret
                    exact ⟨by first | rfl | (simp [errW_none, errW_some] <;> rfl) | (simp [*, errW_none, errW_some] <;> rfl), by repeat (first | (with_reducible first | exact HB.out | apply below_alloc | apply pw_below_drewN | apply below_drew1 | refine below_set ?_ GE213.out | refine below_set ?_ GE215.out) | exact HB.out)⟩
            · replace c20 := Bool.eq_false_iff.mpr c20
              subst c20
              have H1 : (some false) = some r := by rw [if_neg (show ¬ (false = true) by decide)] at H; exact H
              clear H
              have H := H1
              clear H1
              obtain rfl := Option.some.inj H
              have hnb45 := NB215_213.out
              have hnc45 := NB213_215.out
              have hcz46_0 : wc.cell? ⟨gb215, 0, none⟩ = some (.int .i64 ((rd_T45 l0_0 a1).f0)) := (blk_cell BK215.out 0).trans rfl
              have hcz46_1 : wc.cell? ⟨gb215, 1, none⟩ = some (.string ((rd_T45 l0_0 a1).f1)) := (blk_cell BK215.out 1).trans rfl
              have hcz46_2 : wc.cell? ⟨gb215, 2, none⟩ = some (.int .i64 ((rd_T45 l0_0 a1).f2)) := (blk_cell BK215.out 2).trans rfl
              have hcz46_3 : wc.cell? ⟨gb215, 3, none⟩ = some (.slice A214_3 ((rd_T45 l0_0 a1).f3).length c214_3) := (blk_cell BK215.out 3).trans rfl
              have hfz46_0 := blk_frozen BK215.out 0
              have hfz46_1 := blk_frozen BK215.out 1
              have hfz46_2 := blk_frozen BK215.out 2
              have hfz46_3 := blk_frozen BK215.out 3
              go_wp2_with (first | (go_at_call 47; (with_reducible refine (berthref13_holds.calls kj6 ((rd_T45 l0_0 a1).f0) ((rd_T45 l0_0 a1).f1) ((rd_T45 l0_0 a1).f2) _ _ ((rd_T45 l0_0 a1).f3) false _ ?side1 ?side2 A19.out).mono ?_); (case side1 => repeat (first | exact (Kd.C_below HR214_3.out HB.out) | (with_reducible refine Kd.C_alloc ?_ _) | (with_reducible refine Kd.C_drewN ?_ _) | (with_reducible refine Kd.C_drew ?_))); (case side2 => exact HC214_3.out); rintro e w47 ⟨rfl, hb⟩; have n0_ := Aside0.mk (blk_below (g := gb213) (o := .cells #[.slice (some ad214) l0_0.length c0_0] 24 (0, 0)) (by (with_reducible repeat (first | refine blk_drewN ?_ _ | refine blk_drew ?_ | refine blk_alloc ?_ _)); exact BK213.out) hb); have n1_ := Aside0.mk (blk_below (g := gb215) (o := .cells #[.int .i64 ((rd_T45 l0_0 a1).f0), .string ((rd_T45 l0_0 a1).f1), .int .i64 ((rd_T45 l0_0 a1).f2), .slice A214_3 ((rd_T45 l0_0 a1).f3).length c214_3] 45 (0, 0)) (by (with_reducible repeat (first | refine blk_drewN ?_ _ | refine blk_drew ?_ | refine blk_alloc ?_ _)); exact BK215.out) hb); have n2_ := Aside0.mk (below_step (by repeat (first | (with_reducible first | exact HB.out | apply below_alloc | apply pw_below_drewN | apply below_drew1 | refine below_set ?_ GE213.out | refine below_set ?_ GE215.out) | exact HB.out)) hb); clear BK213; clear BK215; clear HB; have BK213 := n0_; have BK215 := n1_; have HB := n2_; clear n0_ n1_ n2_; (try clear hb); (try clear hb2); (try clear hk); (try clear hi)))
              repeat (go_quiet (first | (go_at_call 47; (with_reducible refine (berthref13_holds.calls kj6 ((rd_T45 l0_0 a1).f0) ((rd_T45 l0_0 a1).f1) ((rd_T45 l0_0 a1).f2) _ _ ((rd_T45 l0_0 a1).f3) false _ ?side1 ?side2 A19.out).mono ?_); (case side1 => repeat (first | exact (Kd.C_below HR214_3.out HB.out) | (with_reducible refine Kd.C_alloc ?_ _) | (with_reducible refine Kd.C_drewN ?_ _) | (with_reducible refine Kd.C_drew ?_))); (case side2 => exact HC214_3.out); rintro e w47 ⟨rfl, hb⟩; have n0_ := Aside0.mk (blk_below (g := gb213) (o := .cells #[.slice (some ad214) l0_0.length c0_0] 24 (0, 0)) (by (with_reducible repeat (first | refine blk_drewN ?_ _ | refine blk_drew ?_ | refine blk_alloc ?_ _)); exact BK213.out) hb); have n1_ := Aside0.mk (blk_below (g := gb215) (o := .cells #[.int .i64 ((rd_T45 l0_0 a1).f0), .string ((rd_T45 l0_0 a1).f1), .int .i64 ((rd_T45 l0_0 a1).f2), .slice A214_3 ((rd_T45 l0_0 a1).f3).length c214_3] 45 (0, 0)) (by (with_reducible repeat (first | refine blk_drewN ?_ _ | refine blk_drew ?_ | refine blk_alloc ?_ _)); exact BK215.out) hb); have n2_ := Aside0.mk (below_step (by repeat (first | (with_reducible first | exact HB.out | apply below_alloc | apply pw_below_drewN | apply below_drew1 | refine below_set ?_ GE213.out | refine below_set ?_ GE215.out) | exact HB.out)) hb); clear BK213; clear BK215; clear HB; have BK213 := n0_; have BK215 := n1_; have HB := n2_; clear n0_ n1_ n2_; (try clear hb); (try clear hb2); (try clear hk); (try clear hi))); try go_wp2_with (first | (go_at_call 47; (with_reducible refine (berthref13_holds.calls kj6 ((rd_T45 l0_0 a1).f0) ((rd_T45 l0_0 a1).f1) ((rd_T45 l0_0 a1).f2) _ _ ((rd_T45 l0_0 a1).f3) false _ ?side1 ?side2 A19.out).mono ?_); (case side1 => repeat (first | exact (Kd.C_below HR214_3.out HB.out) | (with_reducible refine Kd.C_alloc ?_ _) | (with_reducible refine Kd.C_drewN ?_ _) | (with_reducible refine Kd.C_drew ?_))); (case side2 => exact HC214_3.out); rintro e w47 ⟨rfl, hb⟩; have n0_ := Aside0.mk (blk_below (g := gb213) (o := .cells #[.slice (some ad214) l0_0.length c0_0] 24 (0, 0)) (by (with_reducible repeat (first | refine blk_drewN ?_ _ | refine blk_drew ?_ | refine blk_alloc ?_ _)); exact BK213.out) hb); have n1_ := Aside0.mk (blk_below (g := gb215) (o := .cells #[.int .i64 ((rd_T45 l0_0 a1).f0), .string ((rd_T45 l0_0 a1).f1), .int .i64 ((rd_T45 l0_0 a1).f2), .slice A214_3 ((rd_T45 l0_0 a1).f3).length c214_3] 45 (0, 0)) (by (with_reducible repeat (first | refine blk_drewN ?_ _ | refine blk_drew ?_ | refine blk_alloc ?_ _)); exact BK215.out) hb); have n2_ := Aside0.mk (below_step (by repeat (first | (with_reducible first | exact HB.out | apply below_alloc | apply pw_below_drewN | apply below_drew1 | refine below_set ?_ GE213.out | refine below_set ?_ GE215.out) | exact HB.out)) hb); clear BK213; clear BK215; clear HB; have BK213 := n0_; have BK215 := n1_; have HB := n2_; clear n0_ n1_ n2_; (try clear hb); (try clear hb2); (try clear hk); (try clear hi))))
              go_ret
              exact ⟨by first | rfl | (simp [errW_none, errW_some] <;> rfl) | (simp [*, errW_none, errW_some] <;> rfl), by repeat (first | (with_reducible first | exact HB.out | apply below_alloc | apply pw_below_drewN | apply below_drew1 | refine below_set ?_ GE213.out | refine below_set ?_ GE215.out) | exact HB.out)⟩
    · rw [if_neg c5] at H
      exact absurd H (by simp)
  · rw [if_neg c4] at H
    exact absurd H (by simp)

/-! ### berthref13_form: function 20 -/
def berthref13_form.l0 : Nat → List Int → Int → List (S45) → Option (Int × Int)
  | 0, _, _, _ => none
  | k + 1, x4, x5, x224000 => if x5 < (x224000.length : Int) then ((berthref13_part.f k x224000 x5 x4).bind fun t224 => (if t224 = true then ((some (([] : List Int) : List Int)).bind fun y225 => (if 0 ≤ x5 then (if 0 ≤ (wrap64 ((x4.length : Int) - (((rd_T45 x224000 x5).f3).length : Int))) then (if (wrap64 ((x4.length : Int) - (((rd_T45 x224000 x5).f3).length : Int))) ≤ (x4.length : Int) then ((some (x4.take ((wrap64 ((x4.length : Int) - (((rd_T45 x224000 x5).f3).length : Int))) : Int).toNat : List Int)).bind fun y229 => (if y225.length + y229.length < 17592186044416 then ((some (y225 ++ y229 : List Int)).bind fun y233 => (if y233.length < 17592186044416 then (berthref13_form.l0 k (y233 ++ [x5]) (wrap64 (x5 + 1)) x224000) else (none))) else (none))) else (none)) else (none)) else (none))) else (some (130, x5)))) else (if 0 ≤ (wrap64 ((x224000.length : Int) - 1)) then (if (wrap64 ((x224000.length : Int) - 1)) < (x224000.length : Int) then ((berthref13_Condition.f ((rd_T45 x224000 (wrap64 ((x224000.length : Int) - 1))).f0)).bind fun t240 => (if t240 = true then (if (x4.length : Int) > 1 then (some (130, wrap64 ((x224000.length : Int) - 1))) else (some (0, 0))) else (some (130, wrap64 ((x224000.length : Int) - 1))))) else (none)) else (none))
def berthref13_form.f (k : Nat) (l0_0 : List (S45)) : Option (Int × Int) := if (l0_0.length : Int) = 0 then (some (130, 0)) else (if (l0_0.length : Int) > 1000 then (some (130, 1000)) else (berthref13_form.l0 k ([] : List Int) 0 l0_0))
theorem berthref13_form.mono_l : ∀ k, (∀ y0 y1 y2, LeO (berthref13_form.l0 k y0 y1 y2) (berthref13_form.l0 (k + 1) y0 y1 y2))
  | 0 => fun _ _ _ r h => by simp [berthref13_form.l0] at h
  | k + 1 => by
    have ih0 := berthref13_form.mono_l k
    · intro y0 y1 y2
      unfold berthref13_form.l0
      repeat' first
      | (with_reducible exact ih0 _ _ _)
      | (with_reducible exact berthref13_part.mono _ _ _ _)
      | (with_reducible exact LeO.refl _)
      | (with_reducible exact LeO.none _)
      | (with_reducible refine LeO.ite ?_ ?_)
      | (with_reducible refine LeO.bind ?_ (fun _ => ?_))
      | exact ih0 _ _ _
      | exact berthref13_part.mono _ _ _ _
      | exact LeO.none _
      | refine LeO.ite ?_ ?_
      | refine LeO.bind ?_ (fun _ => ?_)
theorem berthref13_form.mono : ∀ a0 k, LeO (berthref13_form.f k a0) (berthref13_form.f (k + 1) a0) := by
  intro a0 k
  have ih0 := berthref13_form.mono_l k
  unfold berthref13_form.f
  repeat' first
      | (with_reducible exact ih0 _ _ _)
      | (with_reducible exact berthref13_part.mono _ _ _ _)
      | (with_reducible exact LeO.refl _)
      | (with_reducible exact LeO.none _)
      | (with_reducible refine LeO.ite ?_ ?_)
      | (with_reducible refine LeO.bind ?_ (fun _ => ?_))
      | exact ih0 _ _ _
      | exact berthref13_part.mono _ _ _ _
      | exact LeO.none _
      | refine LeO.ite ?_ ?_
      | refine LeO.bind ?_ (fun _ => ?_)
set_option maxHeartbeats 8000000 in
set_option maxRecDepth 100000 in
theorem berthref13_form.calls (k : Nat) (A0_0 : Option Addr) (c0_0 : Nat) (l0_0 : List (S45)) (r1 : Int) (r2 : Int) (w : World) (hr0_0 : Kd.C k45 w A0_0 l0_0.length l0_0) (hc0_0 : l0_0.length ≤ c0_0) (h : berthref13_form.f k l0_0 = some (r1, r2)) :
    Calls Tryd.prog 20 #[.agg #[.slice A0_0 l0_0.length c0_0]] w fun e w' => e = .returned (.tuple #[.int .i64 r1, .int .i64 r2]) ∧ Below w.heap.size w w' := by
  have hu24 := Tryd.underlying24
  have HR0_0 := Aside0.mk hr0_0
  have HC0_0 := Aside0.mk hc0_0
  clear hr0_0 hc0_0
  have HB := Aside0.mk (Below.refl w.heap.size w)
  have H : (if (l0_0.length : Int) = 0 then (some (130, 0)) else (if (l0_0.length : Int) > 1000 then (some (130, 1000)) else (berthref13_form.l0 k ([] : List Int) 0 l0_0))) = some (r1, r2) := h
  clear h
  by_cases c2 : (l0_0.length : Int) = 0
  · rw [if_pos c2] at H
    have c2b0 : ((l0_0.length : Int) == 0) = true := beq_iff_eq.mpr c2
    have c2b1 : ((l0_0.length : Int) != 0) = false := bne_eq_false_iff_eq.mpr c2
    clear c2
    simp only [Option.some.injEq, Prod.mk.injEq] at H
    obtain ⟨rfl, rfl⟩ := H
    go_enter Tryd.func20, Tryd.ntmps20
    go_wp2_with (first | ((with_reducible refine gate_dst (N := 1) rfl ?_); (try (refine gate_guard (by rfl) ?_; dsimp only)); refine box_event ?hg (N := 1) ?hd (cs := #[.slice A0_0 l0_0.length c0_0]) (t := 24) ?hr ?_; (case hd => rfl); (case hg => rfl); (case hr => first | (go_simp; done) | (go_simp; rfl)); intro gb223 hg w3 hbox hb; have n0_ := Aside0.mk (below_step (by repeat (first | (with_reducible first | exact HB.out | apply below_alloc | apply pw_below_drewN | apply below_drew1) | exact HB.out)) hb); have n1_ := Aside0.mk (hbox); have n2_ := Aside0.mk ((by rw [hg]; exact (below_size (by repeat (first | (with_reducible first | exact HB.out | apply below_alloc | apply pw_below_drewN | apply below_drew1) | exact HB.out))) : w.heap.size ≤ gb223)); have n3_ := Aside0.mk ((by rw [hg]; exact (below_size (by repeat (first | (with_reducible first | exact HB.out | apply below_alloc | apply pw_below_drewN | apply below_drew1) | exact HB.out))) : w.heap.size ≤ gb223)); clear HB; have HB := n0_; have BK223 := n1_; have GW223 := n2_; have GE223 := n3_; clear n0_ n1_ n2_ n3_; clear hb hbox hg; have hcz4_0 : w3.cell? ⟨gb223, 0, none⟩ = some (.slice A0_0 l0_0.length c0_0) := (blk_cell BK223.out 0).trans rfl; have hfz4_0 := blk_frozen BK223.out 0))
    go_ret2
    exact ⟨by first | rfl | (simp [errW_none, errW_some] <;> rfl) | (simp [*, errW_none, errW_some] <;> rfl), by repeat (first | (with_reducible first | exact HB.out | apply below_alloc | apply pw_below_drewN | apply below_drew1 | refine below_set ?_ GE223.out) | exact HB.out)⟩
  · rw [if_neg c2] at H
    have c2b0 : ((l0_0.length : Int) == 0) = false := beq_eq_false_iff_ne.mpr c2
    have c2b1 : ((l0_0.length : Int) != 0) = true := bne_iff_ne.mpr c2
    have c2b2 : ¬ (l0_0 = []) := fun h_ => c2 (by rw [h_]; rfl)
    by_cases c5 : (l0_0.length : Int) > 1000
    · rw [if_pos c5] at H
      have c5b0 : decide (1000 < (l0_0.length : Int)) = true := decide_eq_true c5
      have c5b1 : decide (1000 < l0_0.length) = true := decide_eq_true (by omega)
      clear c5
      simp only [Option.some.injEq, Prod.mk.injEq] at H
      obtain ⟨rfl, rfl⟩ := H
      go_enter Tryd.func20, Tryd.ntmps20
      go_wp2_with (first | ((with_reducible refine gate_dst (N := 1) rfl ?_); (try (refine gate_guard (by rfl) ?_; dsimp only)); refine box_event ?hg (N := 1) ?hd (cs := #[.slice A0_0 l0_0.length c0_0]) (t := 24) ?hr ?_; (case hd => rfl); (case hg => rfl); (case hr => first | (go_simp; done) | (go_simp; rfl)); intro gb223 hg w6 hbox hb; have n0_ := Aside0.mk (below_step (by repeat (first | (with_reducible first | exact HB.out | apply below_alloc | apply pw_below_drewN | apply below_drew1) | exact HB.out)) hb); have n1_ := Aside0.mk (hbox); have n2_ := Aside0.mk ((by rw [hg]; exact (below_size (by repeat (first | (with_reducible first | exact HB.out | apply below_alloc | apply pw_below_drewN | apply below_drew1) | exact HB.out))) : w.heap.size ≤ gb223)); have n3_ := Aside0.mk ((by rw [hg]; exact (below_size (by repeat (first | (with_reducible first | exact HB.out | apply below_alloc | apply pw_below_drewN | apply below_drew1) | exact HB.out))) : w.heap.size ≤ gb223)); clear HB; have HB := n0_; have BK223 := n1_; have GW223 := n2_; have GE223 := n3_; clear n0_ n1_ n2_ n3_; clear hb hbox hg; have hcz7_0 : w6.cell? ⟨gb223, 0, none⟩ = some (.slice A0_0 l0_0.length c0_0) := (blk_cell BK223.out 0).trans rfl; have hfz7_0 := blk_frozen BK223.out 0))
      go_ret2
      exact ⟨by first | rfl | (simp [errW_none, errW_some] <;> rfl) | (simp [*, errW_none, errW_some] <;> rfl), by repeat (first | (with_reducible first | exact HB.out | apply below_alloc | apply pw_below_drewN | apply below_drew1 | refine below_set ?_ GE223.out) | exact HB.out)⟩
    · rw [if_neg c5] at H
      have c5b0 : decide (1000 < (l0_0.length : Int)) = false := decide_eq_false c5
      have c5b1 : decide (1000 < l0_0.length) = false := decide_eq_false (by omega)
      clear c5
      have H' := Aside0.mk H
      clear H
      go_enter Tryd.func20, Tryd.ntmps20
      go_wp2_with (first | ((with_reducible refine gate_dst (N := 1) rfl ?_); (try (refine gate_guard (by rfl) ?_; dsimp only)); refine box_event ?hg (N := 1) ?hd (cs := #[.slice A0_0 l0_0.length c0_0]) (t := 24) ?hr ?_; (case hd => rfl); (case hg => rfl); (case hr => first | (go_simp; done) | (go_simp; rfl)); intro gb223 hg w8 hbox hb; have n0_ := Aside0.mk (below_step (by repeat (first | (with_reducible first | exact HB.out | apply below_alloc | apply pw_below_drewN | apply below_drew1) | exact HB.out)) hb); have n1_ := Aside0.mk (hbox); have n2_ := Aside0.mk ((by rw [hg]; exact (below_size (by repeat (first | (with_reducible first | exact HB.out | apply below_alloc | apply pw_below_drewN | apply below_drew1) | exact HB.out))) : w.heap.size ≤ gb223)); have n3_ := Aside0.mk ((by rw [hg]; exact (below_size (by repeat (first | (with_reducible first | exact HB.out | apply below_alloc | apply pw_below_drewN | apply below_drew1) | exact HB.out))) : w.heap.size ≤ gb223)); clear HB; have HB := n0_; have BK223 := n1_; have GW223 := n2_; have GE223 := n3_; clear n0_ n1_ n2_ n3_; clear hb hbox hg; have hcz9_0 : w8.cell? ⟨gb223, 0, none⟩ = some (.slice A0_0 l0_0.length c0_0) := (blk_cell BK223.out 0).trans rfl; have hfz9_0 := blk_frozen BK223.out 0))
      go_loopg [4, 5] k (fun kq v4 v5 w' => ∃ (x4_1 : List Int) (x5_1 : Int), v5 = .int .i64 x5_1 ∧ Aside0 (berthref13_form.l0 kq x4_1 x5_1 l0_0 = some (r1, r2)) ∧ Aside0 (kq ≤ k) ∧ Aside0 (Kd.R (Kd.int .i64) 3 w' w.heap.size (fun _ => True) v4 x4_1) ∧ Aside0 (w'.heap[gb223]? = some (.cells #[(.slice A0_0 l0_0.length c0_0)] 24 (0, 0))) ∧ Aside0 (Below w.heap.size w w'))
      case atStart => exact ⟨(([] : List Int)), (0), (by first | rfl | (simp; done) | (simp [*]; done)), H', ⟨Nat.le_refl _⟩, ⟨by first | exact Kd.R_nil _ _ _ _ _ | exact Kd.N_nil _ _ _ _ _ | exact Kd.V_nil _ _ _ _ _ | exact Kd.Q_nil _ _ _ _ _ | exact Kd.S_nil _ _ _ _ _⟩, ⟨by (with_reducible repeat (first | refine blk_drewN ?_ _ | refine blk_drew ?_ | refine blk_alloc ?_ _)); exact BK223.out⟩, ⟨by repeat (first | (with_reducible first | exact HB.out | apply below_alloc | apply pw_below_drewN | apply below_drew1 | refine below_set ?_ GE223.out) | exact HB.out)⟩⟩
      case round =>
        clear H'
        try clear c2
        try clear c2b0
        try clear c2b1
        try clear c2b2
        try clear p2
        try clear c5
        try clear c5b0
        try clear c5b1
        try clear hcz4_0
        try clear hcz7_0
        try clear hcz9_0
        try clear hfz4_0
        try clear hfz7_0
        try clear hfz9_0
        obtain ⟨x4_1, x5_1, rfl, HA, HK1, HO_4, BK223, HB⟩ := hrel
        cases gk with
        | zero => exact absurd HA.out (by simp [berthref13_form.l0])
        | succ k1 =>
          have H := HA.out
          clear HA
          simp only [berthref13_form.l0] at H
          by_cases c10 : x5_1 < (l0_0.length : Int)
          · rw [if_pos c10] at H
            have c10b0 : decide (x5_1 < (l0_0.length : Int)) = true := decide_eq_true c10
            clear c10
            replace H := Option.bind_eq_some_iff.mp H
            obtain ⟨t224, A110, H⟩ := H
            replace H : (if t224 = true then ((some (([] : List Int) : List Int)).bind fun y225 => (if 0 ≤ x5_1 then (if 0 ≤ (wrap64 ((x4_1.length : Int) - (((rd_T45 l0_0 x5_1).f3).length : Int))) then (if (wrap64 ((x4_1.length : Int) - (((rd_T45 l0_0 x5_1).f3).length : Int))) ≤ (x4_1.length : Int) then ((some (x4_1.take ((wrap64 ((x4_1.length : Int) - (((rd_T45 l0_0 x5_1).f3).length : Int))) : Int).toNat : List Int)).bind fun y229 => (if y225.length + y229.length < 17592186044416 then ((some (y225 ++ y229 : List Int)).bind fun y233 => (if y233.length < 17592186044416 then (berthref13_form.l0 k1 (y233 ++ [x5_1]) (wrap64 (x5_1 + 1)) l0_0) else (none))) else (none))) else (none)) else (none)) else (none))) else (some (130, x5_1))) = some (r1, r2) := H
            have A11 := Aside0.mk A110
            clear A110
            by_cases c12 : t224 = true
            · subst c12
              have H1 : ((some (([] : List Int) : List Int)).bind fun y225 => (if 0 ≤ x5_1 then (if 0 ≤ (wrap64 ((x4_1.length : Int) - (((rd_T45 l0_0 x5_1).f3).length : Int))) then (if (wrap64 ((x4_1.length : Int) - (((rd_T45 l0_0 x5_1).f3).length : Int))) ≤ (x4_1.length : Int) then ((some (x4_1.take ((wrap64 ((x4_1.length : Int) - (((rd_T45 l0_0 x5_1).f3).length : Int))) : Int).toNat : List Int)).bind fun y229 => (if y225.length + y229.length < 17592186044416 then ((some (y225 ++ y229 : List Int)).bind fun y233 => (if y233.length < 17592186044416 then (berthref13_form.l0 k1 (y233 ++ [x5_1]) (wrap64 (x5_1 + 1)) l0_0) else (none))) else (none))) else (none)) else (none)) else (none))) = some (r1, r2) := by rw [if_pos rfl] at H; exact H
              clear H
              have H := H1
              clear H1
              obtain ⟨y225, hy225⟩ : ∃ y_ : List Int, y_ = (([] : List Int)) := ⟨_, rfl⟩
              replace H : (if 0 ≤ x5_1 then (if 0 ≤ (wrap64 ((x4_1.length : Int) - (((rd_T45 l0_0 x5_1).f3).length : Int))) then (if (wrap64 ((x4_1.length : Int) - (((rd_T45 l0_0 x5_1).f3).length : Int))) ≤ (x4_1.length : Int) then ((some (x4_1.take ((wrap64 ((x4_1.length : Int) - (((rd_T45 l0_0 x5_1).f3).length : Int))) : Int).toNat : List Int)).bind fun y229 => (if y225.length + y229.length < 17592186044416 then ((some (y225 ++ y229 : List Int)).bind fun y233 => (if y233.length < 17592186044416 then (berthref13_form.l0 k1 (y233 ++ [x5_1]) (wrap64 (x5_1 + 1)) l0_0) else (none))) else (none))) else (none)) else (none)) else (none)) = some (r1, r2) := by first | (rw [hy225]; with_reducible exact H) | (have H2_ := (Option.bind_some _ _).symm.trans H; rw [hy225]; with_reducible exact H2_) | (have H2_ := (Option.bind_some _ _).symm.trans H; with_reducible exact H2_) | with_reducible exact H | (rw [hy225]; exact H) | exact H
              have Ny225 := Aside0.mk hy225
              clear hy225
              by_cases c13 : 0 ≤ x5_1
              · rw [if_pos c13] at H
                have c13b0 : decide (0 ≤ x5_1) = true := decide_eq_true c13
                clear c13
                obtain ⟨ji14, hji14⟩ : ∃ j_ : Int, (wrap64 ((x4_1.length : Int) - (((rd_T45 l0_0 x5_1).f3).length : Int))) = j_ := ⟨_, rfl⟩
                replace H : (if 0 ≤ (ji14) then (if (ji14) ≤ (x4_1.length : Int) then ((some (x4_1.take ((ji14) : Int).toNat : List Int)).bind fun y229 => (if y225.length + y229.length < 17592186044416 then ((some (y225 ++ y229 : List Int)).bind fun y233 => (if y233.length < 17592186044416 then (berthref13_form.l0 k1 (y233 ++ [x5_1]) (wrap64 (x5_1 + 1)) l0_0) else (none))) else (none))) else (none)) else (none)) = some (r1, r2) := by first | (rw [hji14] at H; exact H) | (simp only [hji14] at H ⊢; exact H)
                (try rw [hji14] at A11)
                have hji14w : (IntKind.i64.wrap ((x4_1.length : Int) - (((rd_T45 l0_0 x5_1).f3).length : Int))) = ji14 := (i64_w _).trans hji14
                by_cases c15 : 0 ≤ (ji14)
                · rw [if_pos c15] at H
                  have c15b0 := eq_true c15
                  have c15b1 : decide (0 ≤ (ji14)) = true := decide_eq_true c15
                  clear c15
                  by_cases c16 : (ji14) ≤ (x4_1.length : Int)
                  · rw [if_pos c16] at H
                    have c16b0 := eq_true c16
                    have c16b1 : decide ((ji14) ≤ (x4_1.length : Int)) = true := decide_eq_true c16
                    clear c16
                    obtain ⟨y229, hy229⟩ : ∃ y_ : List Int, y_ = (x4_1.take ((ji14) : Int).toNat) := ⟨_, rfl⟩
                    replace H : (if y225.length + y229.length < 17592186044416 then ((some (y225 ++ y229 : List Int)).bind fun y233 => (if y233.length < 17592186044416 then (berthref13_form.l0 k1 (y233 ++ [x5_1]) (wrap64 (x5_1 + 1)) l0_0) else (none))) else (none)) = some (r1, r2) := by first | (rw [hy229]; with_reducible exact H) | (have H2_ := (Option.bind_some _ _).symm.trans H; rw [hy229]; with_reducible exact H2_) | (have H2_ := (Option.bind_some _ _).symm.trans H; with_reducible exact H2_) | with_reducible exact H | (rw [hy229]; exact H) | exact H
                    have Ny229 := Aside0.mk hy229
                    clear hy229
                    by_cases c17 : y225.length + y229.length < 17592186044416
                    · rw [if_pos c17] at H
                      have LMc17 := Aside0.mk c17
                      clear c17
                      obtain ⟨y233, hy233⟩ : ∃ y_ : List Int, y_ = (y225 ++ y229) := ⟨_, rfl⟩
                      replace H : (if y233.length < 17592186044416 then (berthref13_form.l0 k1 (y233 ++ [x5_1]) (wrap64 (x5_1 + 1)) l0_0) else (none)) = some (r1, r2) := by first | (rw [hy233]; with_reducible exact H) | (have H2_ := (Option.bind_some _ _).symm.trans H; rw [hy233]; with_reducible exact H2_) | (have H2_ := (Option.bind_some _ _).symm.trans H; with_reducible exact H2_) | with_reducible exact H | (rw [hy233]; exact H) | exact H
                      have Ny233 := Aside0.mk hy233
                      clear hy233
                      by_cases c18 : y233.length < 17592186044416
                      · rw [if_pos c18] at H
                        have LMc18 := Aside0.mk c18
                        clear c18
                        obtain ⟨y236, hy236⟩ : ∃ y_ : List Int, y_ = (y233 ++ [x5_1]) := ⟨_, rfl⟩
                        replace H : (berthref13_form.l0 k1 y236 (wrap64 (x5_1 + 1)) l0_0) = some (r1, r2) := by first | (rw [hy236]; with_reducible exact H) | (have H2_ := (Option.bind_some _ _).symm.trans H; rw [hy236]; with_reducible exact H2_) | (have H2_ := (Option.bind_some _ _).symm.trans H; with_reducible exact H2_) | with_reducible exact H | (rw [hy236]; exact H) | exact H
                        have Ny236 := Aside0.mk hy236
                        clear hy236
                        have H' := Aside0.mk H
                        clear H
                        have hcz19_0 : wr.cell? ⟨gb223, 0, none⟩ = some (.slice A0_0 l0_0.length c0_0) := (blk_cell BK223.out 0).trans rfl
                        have hfz19_0 := blk_frozen BK223.out 0
                        obtain ⟨Ao20, co20, eo20⟩ := Kd.R_slice HO_4.out
                        subst eo20
                        go_wp2_with (first | ((with_reducible refine gate_callee (f := 30) rfl ?_); refine goesL_ (some 27) rfl rfl Tryd.func30 (by kernel_rfl) rfl #[.agg #[.slice A0_0 l0_0.length c0_0], .int .i64 x5_1, .slice Ao20 x4_1.length co20] rfl (by (try simp only [List.map_toArray, List.map_cons, List.map_nil]); first | done | rfl | (simp only [List.length_drop, List.length_take]; rfl)) ?_; (with_reducible refine (berthref13_part.calls k1 _ _ l0_0 x5_1 _ _ x4_1 true _ ?side1 ?side2 ?side3 ?side4 A11.out).mono ?_); (case side1 => repeat (first | exact (Kd.C_below HR0_0.out HB.out) | (with_reducible refine Kd.C_alloc ?_ _) | (with_reducible refine Kd.C_drewN ?_ _) | (with_reducible refine Kd.C_drew ?_))); (case side2 => exact HC0_0.out); (case side3 => repeat (first | exact (Kd.R_reads' HO_4.out).2.2 | (with_reducible refine Kd.C_alloc ?_ _) | (with_reducible refine Kd.C_drewN ?_ _) | (with_reducible refine Kd.C_drew ?_))); (case side4 => exact (Kd.R_reads' HO_4.out).2.1); rintro e w21 ⟨rfl, hb⟩; refine ⟨_, rfl, ?_⟩; have n0_ := Aside0.mk (Kd.R_below (by (with_reducible repeat (first | apply Kd.R_alloc | apply Kd.R_drewN | apply Kd.R_drew)); exact HO_4.out) hb); have n1_ := Aside0.mk (blk_below (g := gb223) (o := .cells #[.slice A0_0 l0_0.length c0_0] 24 (0, 0)) (by (with_reducible repeat (first | refine blk_drewN ?_ _ | refine blk_drew ?_ | refine blk_alloc ?_ _)); exact BK223.out) hb); have n2_ := Aside0.mk (below_step (by repeat (first | (with_reducible first | exact HB.out | apply below_alloc | apply pw_below_drewN | apply below_drew1 | refine below_set ?_ GE223.out) | exact HB.out)) hb); clear HO_4; clear BK223; clear HB; have HO_4 := n0_; have BK223 := n1_; have HB := n2_; clear n0_ n1_ n2_; (try clear hb); (try clear hb2); (try clear hk); (try clear hi)) | ((with_reducible refine gate_dst (N := 31) rfl ?_); (try (refine gate_guard (by rfl) ?_; dsimp only)); refine Kd.R_lit (Kd.int .i64) _ 3 ?hg (N := 31) ?hd (xs := ([] : List Int)) (inner := []) (ok := fun _ => True) (okp := fun _ => True) ?hr ?hp (fun _ hk => hk) trivial (Below.refl _ _) (Nat.le_refl _) (by simp) ?_; (case hd => rfl); (case hg => rfl); (case hr => first | (go_simp; done) | (go_simp; rfl)); (case hp => exact (Reps.none _ _)); intro v226 w22 ho23 hb hg_ hnew_; clear hg_ hnew_; (first | rw [← Ny225.out] at ho23 | (simp only [Int.reduceToNat] at ho23; rw [← Ny225.out] at ho23)); have n0_ := Aside0.mk (Kd.R_elder' (by (with_reducible repeat (first | apply Kd.R_alloc | apply Kd.R_drewN | apply Kd.R_drew)); exact HO_4.out) (Kd.R_base ho23) hb); have n1_ := Aside0.mk (Kd.R_lower (Kd.R_new' ho23 (Kd.R_lt (by (with_reducible repeat (first | apply Kd.R_alloc | apply Kd.R_drewN | apply Kd.R_drew)); exact HO_4.out))) (below_size (by repeat (first | (with_reducible first | exact HB.out | apply below_alloc | apply pw_below_drewN | apply below_drew1 | refine below_set ?_ GE223.out) | exact HB.out)))); have n2_ := Aside0.mk (blk_below (g := gb223) (o := .cells #[.slice A0_0 l0_0.length c0_0] 24 (0, 0)) (by (with_reducible repeat (first | refine blk_drewN ?_ _ | refine blk_drew ?_ | refine blk_alloc ?_ _)); exact BK223.out) hb); have n3_ := Aside0.mk (below_step (by repeat (first | (with_reducible first | exact HB.out | apply below_alloc | apply pw_below_drewN | apply below_drew1 | refine below_set ?_ GE223.out) | exact HB.out)) hb); clear HO_4; clear BK223; clear HB; have HO_4 := n0_; have HO227 := n1_; have BK223 := n2_; have HB := n3_; clear n0_ n1_ n2_ n3_; clear hb ho23; have hcz24_0 : w22.cell? ⟨gb223, 0, none⟩ = some (.slice A0_0 l0_0.length c0_0) := (blk_cell BK223.out 0).trans rfl; have hfz24_0 := blk_frozen BK223.out 0; have p228 : 0 ≤ (x5_1 : Int) := of_decide_eq_true (by first | (with_reducible assumption) | assumption); have q228 : x5_1 < (l0_0.length : Int) := of_decide_eq_true (by first | (with_reducible assumption) | assumption); obtain ⟨ad228, A228_3, c228_3, e228, hx228_0, hx228_1, hx228_2, hx228_3, hl228_3, hi228_3⟩ := at_T45 HR0_0.out x5_1 p228 q228; cases e228; replace hx228_0 := (HB.out.cell (World.block_lt_of_cell? w _ hx228_0)).trans hx228_0; replace hx228_1 := (HB.out.cell (World.block_lt_of_cell? w _ hx228_1)).trans hx228_1; replace hx228_2 := (HB.out.cell (World.block_lt_of_cell? w _ hx228_2)).trans hx228_2; replace hx228_3 := (HB.out.cell (World.block_lt_of_cell? w _ hx228_3)).trans hx228_3; have HR228_3 := Aside0.mk hi228_3; have HC228_3 := Aside0.mk hl228_3; clear hi228_3 hl228_3; replace p228 := eq_true p228; replace q228 := eq_true q228; have q25 : ((ji14) : Int) ≤ ((x4_1.length : Int) : Int) := of_decide_eq_true (by first | (with_reducible assumption) | assumption); obtain ⟨i025, hi025, _, hsz25, _⟩ := info_parts info3; have hroom25 : x4_1.length ≤ co20 := (Kd.R_reads' HO_4.out).2.1; have hC25 : Kd.C (Kd.int .i64) _ Ao20 x4_1.length x4_1 := (Kd.R_reads' HO_4.out).2.2; have hcut25 := cut_to (P := Tryd.prog) 43 3 .i64 Tryd.underlying43 hi025 Ao20 x4_1.length co20 (ji14) (of_decide_eq_true (by first | (with_reducible assumption) | assumption)) q25 hroom25; have hr25 := Kd.C_take (m := ((ji14) : Int).toNat) hC25 (by omega); have hy25 : y229.length = ((ji14) : Int).toNat := (by rw [Ny229.out, List.length_take]; omega); rw [← Ny229.out] at hr25; rw [← hy25] at hcut25; have HR232 := Aside0.mk hr25; have HC232 := Aside0.mk (show y229.length ≤ co20 from by omega); clear hr25 hC25 hroom25 hi025 hsz25; have KY25 := Aside0.mk hy25; clear hy25; have KL25 := Aside0.mk (show ((ji14) : Int).toNat ≤ x4_1.length from by omega); replace q25 := eq_true q25) | ((with_reducible refine gate_builtin (b := .append) (xs := #[.tmp 31, .tmp 43]) rfl ?_); (try (refine gate_guard (by rfl) ?_; dsimp only)); at_builtin; refine Kd.R_append_rows (Kd.int .i64) (w0 := w) w.heap.size rfl (.tmp 31) (.tmp 43) 43 3 (.int .i64 0) 8 rfl Tryd.underlying43 info3 rfl (by decide) (by omega) v226 y225 y229 _ _ _ (fun k_ => some k_ ≠ (.slice Ao20 x4_1.length co20 : Value).ownBlock) (fun _ => False) rfl rfl ?aO ?aR (fun _ _ h => h) (fun _ h => h.elim) ?aF ?aB ?aS ?aL ?_; (case aR => repeat (first | exact (by repeat (first | (with_reducible exact HR232.out) | (with_reducible refine Kd.C_alloc ?_ _) | (with_reducible refine Kd.C_drewN ?_ _) | (with_reducible refine Kd.C_drew ?_) | exact HR232.out)) | (with_reducible refine Kd.C_alloc ?_ _) | (with_reducible refine Kd.C_drewN ?_ _) | (with_reducible refine Kd.C_drew ?_))); (case aB => exact (by repeat (first | (with_reducible first | exact HB.out | apply below_alloc | apply pw_below_drewN | apply below_drew1 | refine below_set ?_ GE223.out) | exact HB.out))); (case aF => exact (fun k_ hk => Kd.fresh' (Kd.R_lt (by (with_reducible repeat (first | apply Kd.R_alloc | apply Kd.R_drewN | apply Kd.R_drew)); exact HO_4.out)) k_ hk)); (case aO => exact (by (with_reducible repeat (first | apply Kd.R_alloc | apply Kd.R_drewN | apply Kd.R_drew)); exact Kd.R_mono HO227.out (fun _ hk => hk.2))); (case aS => exact (below_size (by repeat (first | (with_reducible first | exact HB.out | apply below_alloc | apply pw_below_drewN | apply below_drew1 | refine below_set ?_ GE223.out) | exact HB.out)))); (case aL => have := LMc17.out; omega); intro v234 w26 ho hb hg hat; rw [← Ny233.out] at ho; have n0_ := Aside0.mk (Kd.R_after (ok := (fun _ => True)) (by (with_reducible repeat (first | apply Kd.R_alloc | apply Kd.R_drewN | apply Kd.R_drew)); exact HO_4.out) hg hat); have n1_ := Aside0.mk (blk_grown (g := gb223) (o := .cells #[.slice (some ad228) l0_0.length c0_0] 24 (0, 0)) (by (with_reducible repeat (first | refine blk_drewN ?_ _ | refine blk_drew ?_ | refine blk_alloc ?_ _)); exact BK223.out) hg (Kd.R_ne HO227.out BK223.out (by decide))); have n2_ := Aside0.mk (hb); have n3_ := Aside0.mk ((show Kd.C (Kd.int .i64) w26 Ao20 y229.length y229 from by rw [Ny229.out]; exact Kd.C_take (m := ((ji14) : Int).toNat) ((Kd.R_reads' (Kd.R_after (ok := (fun _ => True)) (by (with_reducible repeat (first | apply Kd.R_alloc | apply Kd.R_drewN | apply Kd.R_drew)); exact HO_4.out) hg hat)).2.2) KL25.out)); have n4_ := Aside0.mk (ho); clear HO_4; clear BK223; clear HB; clear HR232; clear HO227; have HO_4 := n0_; have BK223 := n1_; have HB := n2_; have HR232 := n3_; have HO235 := n4_; clear n0_ n1_ n2_ n3_ n4_; clear ho hb hg hat) | ((with_reducible refine gate_builtin (b := .append) (xs := #[.tmp 45, .tmp 47]) rfl ?_); (try (refine gate_guard (by rfl) ?_; dsimp only)); at_builtin; refine Kd.R_append (Kd.int .i64) (w0 := w) w.heap.size rfl (.tmp 45) (.tmp 47) 43 3 (.int .i64 0) 8 rfl Tryd.underlying43 info3 rfl (by decide) (by omega) v234 y233 x5_1 [.int .i64 x5_1] (fun k_ => some k_ ≠ (.slice Ao20 x4_1.length co20 : Value).ownBlock) (fun _ => False) rfl rfl ?aP (fun _ hk => hk.elim) ?aF ?aO ?aB ?aS ?aL ?_; (case aP => exact rfl); (case aB => exact (by repeat (first | (with_reducible first | exact HB.out | apply below_alloc | apply pw_below_drewN | apply below_drew1 | refine below_set ?_ GE223.out) | exact HB.out))); (case aF => exact (fun k_ hk => Kd.fresh' (Kd.R_lt (by (with_reducible repeat (first | apply Kd.R_alloc | apply Kd.R_drewN | apply Kd.R_drew)); exact HO_4.out)) k_ hk)); (case aO => exact (by (with_reducible repeat (first | apply Kd.R_alloc | apply Kd.R_drewN | apply Kd.R_drew)); exact HO235.out)); (case aS => exact (below_size (by repeat (first | (with_reducible first | exact HB.out | apply below_alloc | apply pw_below_drewN | apply below_drew1 | refine below_set ?_ GE223.out) | exact HB.out)))); (case aL => have := LMc18.out; omega); intro v237 w27 ho hb hg hat; rw [← Ny236.out] at ho; have n0_ := Aside0.mk (Kd.R_after (ok := (fun _ => True)) (by (with_reducible repeat (first | apply Kd.R_alloc | apply Kd.R_drewN | apply Kd.R_drew)); exact HO_4.out) hg hat); have n1_ := Aside0.mk (blk_grown (g := gb223) (o := .cells #[.slice (some ad228) l0_0.length c0_0] 24 (0, 0)) (by (with_reducible repeat (first | refine blk_drewN ?_ _ | refine blk_drew ?_ | refine blk_alloc ?_ _)); exact BK223.out) hg (Kd.R_ne HO235.out BK223.out (by decide))); have n2_ := Aside0.mk (hb); have n3_ := Aside0.mk ((show Kd.C (Kd.int .i64) w27 Ao20 y229.length y229 from by rw [Ny229.out]; exact Kd.C_take (m := ((ji14) : Int).toNat) ((Kd.R_reads' (Kd.R_after (ok := (fun _ => True)) (by (with_reducible repeat (first | apply Kd.R_alloc | apply Kd.R_drewN | apply Kd.R_drew)); exact HO_4.out) hg hat)).2.2) KL25.out)); have n4_ := Aside0.mk (ho); clear HO_4; clear BK223; clear HB; clear HR232; clear HO235; have HO_4 := n0_; have BK223 := n1_; have HB := n2_; have HR232 := n3_; have HO238 := n4_; clear n0_ n1_ n2_ n3_ n4_; clear ho hb hg hat))
                        go_roundg k1
                        case measure => have := HK1.out; omega
                        case rel => exact ⟨(y236), (wrap64 (x5_1 + 1)), (by first | rfl | (simp; done) | (simp [*]; done)), H', ⟨by have := HK1.out; omega⟩, ⟨by (with_reducible repeat (first | apply Kd.R_alloc | apply Kd.R_drewN | apply Kd.R_drew)); exact Kd.R_mono HO238.out (fun _ hk => trivial)⟩, ⟨by (with_reducible repeat (first | refine blk_drewN ?_ _ | refine blk_drew ?_ | refine blk_alloc ?_ _)); exact BK223.out⟩, ⟨by repeat (first | (with_reducible first | exact HB.out | apply below_alloc | apply pw_below_drewN | apply below_drew1 | refine below_set ?_ GE223.out) | exact HB.out)⟩⟩
                      · rw [if_neg c18] at H
                        exact absurd H (by simp)
                    · rw [if_neg c17] at H
                      exact absurd H (by simp)
                  · rw [if_neg c16] at H
                    exact absurd H (by simp)
                · rw [if_neg c15] at H
                  exact absurd H (by simp)
              · rw [if_neg c13] at H
                exact absurd H (by simp)
            · replace c12 := Bool.eq_false_iff.mpr c12
              subst c12
              have H1 : (some (130, x5_1)) = some (r1, r2) := by rw [if_neg (show ¬ (false = true) by decide)] at H; exact H
              clear H
              have H := H1
              clear H1
              simp only [Option.some.injEq, Prod.mk.injEq] at H
              obtain ⟨rfl, rfl⟩ := H
              have hcz28_0 : wr.cell? ⟨gb223, 0, none⟩ = some (.slice A0_0 l0_0.length c0_0) := (blk_cell BK223.out 0).trans rfl
              have hfz28_0 := blk_frozen BK223.out 0
              obtain ⟨Ao29, co29, eo29⟩ := Kd.R_slice HO_4.out
              subst eo29
              go_wp2_with (first | ((with_reducible refine gate_callee (f := 30) rfl ?_); refine goesL_ (some 27) rfl rfl Tryd.func30 (by kernel_rfl) rfl #[.agg #[.slice A0_0 l0_0.length c0_0], .int .i64 x5_1, .slice Ao29 x4_1.length co29] rfl (by (try simp only [List.map_toArray, List.map_cons, List.map_nil]); first | done | rfl | (simp only [List.length_drop, List.length_take]; rfl)) ?_; (with_reducible refine (berthref13_part.calls k1 _ _ l0_0 x5_1 _ _ x4_1 false _ ?side1 ?side2 ?side3 ?side4 A11.out).mono ?_); (case side1 => repeat (first | exact (Kd.C_below HR0_0.out HB.out) | (with_reducible refine Kd.C_alloc ?_ _) | (with_reducible refine Kd.C_drewN ?_ _) | (with_reducible refine Kd.C_drew ?_))); (case side2 => exact HC0_0.out); (case side3 => repeat (first | exact (Kd.R_reads' HO_4.out).2.2 | (with_reducible refine Kd.C_alloc ?_ _) | (with_reducible refine Kd.C_drewN ?_ _) | (with_reducible refine Kd.C_drew ?_))); (case side4 => exact (Kd.R_reads' HO_4.out).2.1); rintro e w30 ⟨rfl, hb⟩; refine ⟨_, rfl, ?_⟩; have n0_ := Aside0.mk (Kd.R_below (by (with_reducible repeat (first | apply Kd.R_alloc | apply Kd.R_drewN | apply Kd.R_drew)); exact HO_4.out) hb); have n1_ := Aside0.mk (blk_below (g := gb223) (o := .cells #[.slice A0_0 l0_0.length c0_0] 24 (0, 0)) (by (with_reducible repeat (first | refine blk_drewN ?_ _ | refine blk_drew ?_ | refine blk_alloc ?_ _)); exact BK223.out) hb); have n2_ := Aside0.mk (below_step (by repeat (first | (with_reducible first | exact HB.out | apply below_alloc | apply pw_below_drewN | apply below_drew1 | refine below_set ?_ GE223.out) | exact HB.out)) hb); clear HO_4; clear BK223; clear HB; have HO_4 := n0_; have BK223 := n1_; have HB := n2_; clear n0_ n1_ n2_; (try clear hb); (try clear hb2); (try clear hk); (try clear hi)))
              go_ret2
              exact ⟨by first | rfl | (simp [errW_none, errW_some] <;> rfl) | (simp [*, errW_none, errW_some] <;> rfl), by repeat (first | (with_reducible first | exact HB.out | apply below_alloc | apply pw_below_drewN | apply below_drew1 | refine below_set ?_ GE223.out) | exact HB.out)⟩
          · rw [if_neg c10] at H
            have c10b0 : decide (x5_1 < (l0_0.length : Int)) = false := decide_eq_false c10
            clear c10
            obtain ⟨ji31, hji31⟩ : ∃ j_ : Int, (wrap64 ((l0_0.length : Int) - 1)) = j_ := ⟨_, rfl⟩
            replace H : (if 0 ≤ (ji31) then (if (ji31) < (l0_0.length : Int) then ((berthref13_Condition.f ((rd_T45 l0_0 (ji31)).f0)).bind fun t240 => (if t240 = true then (if (x4_1.length : Int) > 1 then (some (130, ji31)) else (some (0, 0))) else (some (130, ji31)))) else (none)) else (none)) = some (r1, r2) := by first | (rw [hji31] at H; exact H) | (simp only [hji31] at H ⊢; exact H)
            have hji31w : (IntKind.i64.wrap ((l0_0.length : Int) - 1)) = ji31 := (i64_w _).trans hji31
            by_cases c32 : 0 ≤ (ji31)
            · rw [if_pos c32] at H
              have c32b0 : decide (0 ≤ (ji31)) = true := decide_eq_true c32
              clear c32
              by_cases c33 : (ji31) < (l0_0.length : Int)
              · rw [if_pos c33] at H
                have c33b0 : decide ((ji31) < (l0_0.length : Int)) = true := decide_eq_true c33
                clear c33
                replace H := Option.bind_eq_some_iff.mp H
                obtain ⟨t240, A340, H⟩ := H
                replace H : (if t240 = true then (if (x4_1.length : Int) > 1 then (some (130, ji31)) else (some (0, 0))) else (some (130, ji31))) = some (r1, r2) := H
                have A34 := Aside0.mk A340
                clear A340
                by_cases c35 : t240 = true
                · subst c35
                  have H1 : (if (x4_1.length : Int) > 1 then (some (130, ji31)) else (some (0, 0))) = some (r1, r2) := by rw [if_pos rfl] at H; exact H
                  clear H
                  have H := H1
                  clear H1
                  by_cases c36 : (x4_1.length : Int) > 1
                  · rw [if_pos c36] at H
                    have c36b0 : decide (1 < (x4_1.length : Int)) = true := decide_eq_true c36
                    have c36b1 : decide (1 < x4_1.length) = true := decide_eq_true (by omega)
                    clear c36
                    simp only [Option.some.injEq, Prod.mk.injEq] at H
                    obtain ⟨rfl, rfl⟩ := H
                    have hcz37_0 : wr.cell? ⟨gb223, 0, none⟩ = some (.slice A0_0 l0_0.length c0_0) := (blk_cell BK223.out 0).trans rfl
                    have hfz37_0 := blk_frozen BK223.out 0
                    have p239 : 0 ≤ ((ji31) : Int) := of_decide_eq_true (by first | (with_reducible assumption) | assumption)
                    have q239 : (ji31) < (l0_0.length : Int) := of_decide_eq_true (by first | (with_reducible assumption) | assumption)
                    obtain ⟨ad239, A239_3, c239_3, e239, hx239_0, hx239_1, hx239_2, hx239_3, hl239_3, hi239_3⟩ := at_T45 HR0_0.out (ji31) p239 q239
                    cases e239
                    replace hx239_0 := (HB.out.cell (World.block_lt_of_cell? w _ hx239_0)).trans hx239_0
                    replace hx239_1 := (HB.out.cell (World.block_lt_of_cell? w _ hx239_1)).trans hx239_1
                    replace hx239_2 := (HB.out.cell (World.block_lt_of_cell? w _ hx239_2)).trans hx239_2
                    replace hx239_3 := (HB.out.cell (World.block_lt_of_cell? w _ hx239_3)).trans hx239_3
                    have HR239_3 := Aside0.mk hi239_3
                    have HC239_3 := Aside0.mk hl239_3
                    clear hi239_3 hl239_3
                    replace p239 := eq_true p239
                    replace q239 := eq_true q239
                    go_wp2_with (first | ((with_reducible refine gate_callee (f := 31) rfl ?_); refine goesL_ (some 59) rfl rfl Tryd.func31 (by kernel_rfl) rfl #[.int .i64 ((rd_T45 l0_0 (ji31)).f0)] rfl (by (try simp only [List.map_toArray, List.map_cons, List.map_nil]); first | done | (simp only [hji31]; rfl) | rfl | (simp only [List.length_drop, List.length_take]; rfl)) ?_; (with_reducible refine (berthref13_Condition.calls ((rd_T45 l0_0 (ji31)).f0) true _ A34.out).mono ?_); rintro e w' ⟨rfl, ⟨nd, rfl⟩⟩; refine ⟨_, rfl, ?_⟩; obtain ⟨Ao38, co38, eo38⟩ := Kd.R_slice HO_4.out; subst eo38))
                    go_ret2
                    exact ⟨by first | rfl | (simp [errW_none, errW_some] <;> rfl) | (simp only [← hji31]; first | rfl | (simp [errW_none, errW_some] <;> rfl)) | (simp [*, errW_none, errW_some] <;> rfl), by repeat (first | (with_reducible first | exact HB.out | apply below_alloc | apply pw_below_drewN | apply below_drew1 | refine below_set ?_ GE223.out) | exact HB.out)⟩
                  · rw [if_neg c36] at H
                    have c36b0 : decide (1 < (x4_1.length : Int)) = false := decide_eq_false c36
                    have c36b1 : decide (1 < x4_1.length) = false := decide_eq_false (by omega)
                    clear c36
                    simp only [Option.some.injEq, Prod.mk.injEq] at H
                    obtain ⟨rfl, rfl⟩ := H
                    have hcz39_0 : wr.cell? ⟨gb223, 0, none⟩ = some (.slice A0_0 l0_0.length c0_0) := (blk_cell BK223.out 0).trans rfl
                    have hfz39_0 := blk_frozen BK223.out 0
                    have p239 : 0 ≤ ((ji31) : Int) := of_decide_eq_true (by first | (with_reducible assumption) | assumption)
                    have q239 : (ji31) < (l0_0.length : Int) := of_decide_eq_true (by first | (with_reducible assumption) | assumption)
                    obtain ⟨ad239, A239_3, c239_3, e239, hx239_0, hx239_1, hx239_2, hx239_3, hl239_3, hi239_3⟩ := at_T45 HR0_0.out (ji31) p239 q239
                    cases e239
                    replace hx239_0 := (HB.out.cell (World.block_lt_of_cell? w _ hx239_0)).trans hx239_0
                    replace hx239_1 := (HB.out.cell (World.block_lt_of_cell? w _ hx239_1)).trans hx239_1
                    replace hx239_2 := (HB.out.cell (World.block_lt_of_cell? w _ hx239_2)).trans hx239_2
                    replace hx239_3 := (HB.out.cell (World.block_lt_of_cell? w _ hx239_3)).trans hx239_3
                    have HR239_3 := Aside0.mk hi239_3
                    have HC239_3 := Aside0.mk hl239_3
                    clear hi239_3 hl239_3
                    replace p239 := eq_true p239
                    replace q239 := eq_true q239
                    go_wp2_with (first | ((with_reducible refine gate_callee (f := 31) rfl ?_); refine goesL_ (some 59) rfl rfl Tryd.func31 (by kernel_rfl) rfl #[.int .i64 ((rd_T45 l0_0 (ji31)).f0)] rfl (by (try simp only [List.map_toArray, List.map_cons, List.map_nil]); first | done | (simp only [hji31]; rfl) | rfl | (simp only [List.length_drop, List.length_take]; rfl)) ?_; (with_reducible refine (berthref13_Condition.calls ((rd_T45 l0_0 (ji31)).f0) true _ A34.out).mono ?_); rintro e w' ⟨rfl, ⟨nd, rfl⟩⟩; refine ⟨_, rfl, ?_⟩; obtain ⟨Ao40, co40, eo40⟩ := Kd.R_slice HO_4.out; subst eo40))
                    go_ret2
                    exact ⟨by first | rfl | (simp [errW_none, errW_some] <;> rfl) | (simp only [← hji31]; first | rfl | (simp [errW_none, errW_some] <;> rfl)) | (simp [*, errW_none, errW_some] <;> rfl), by repeat (first | (with_reducible first | exact HB.out | apply below_alloc | apply pw_below_drewN | apply below_drew1 | refine below_set ?_ GE223.out) | exact HB.out)⟩
                · replace c35 := Bool.eq_false_iff.mpr c35
                  subst c35
                  have H1 : (some (130, ji31)) = some (r1, r2) := by rw [if_neg (show ¬ (false = true) by decide)] at H; exact H
                  clear H
                  have H := H1
                  clear H1
                  simp only [Option.some.injEq, Prod.mk.injEq] at H
                  obtain ⟨rfl, rfl⟩ := H
                  have hcz41_0 : wr.cell? ⟨gb223, 0, none⟩ = some (.slice A0_0 l0_0.length c0_0) := (blk_cell BK223.out 0).trans rfl
                  have hfz41_0 := blk_frozen BK223.out 0
                  have p239 : 0 ≤ ((ji31) : Int) := of_decide_eq_true (by first | (with_reducible assumption) | assumption)
                  have q239 : (ji31) < (l0_0.length : Int) := of_decide_eq_true (by first | (with_reducible assumption) | assumption)
                  obtain ⟨ad239, A239_3, c239_3, e239, hx239_0, hx239_1, hx239_2, hx239_3, hl239_3, hi239_3⟩ := at_T45 HR0_0.out (ji31) p239 q239
                  cases e239
                  replace hx239_0 := (HB.out.cell (World.block_lt_of_cell? w _ hx239_0)).trans hx239_0
                  replace hx239_1 := (HB.out.cell (World.block_lt_of_cell? w _ hx239_1)).trans hx239_1
                  replace hx239_2 := (HB.out.cell (World.block_lt_of_cell? w _ hx239_2)).trans hx239_2
                  replace hx239_3 := (HB.out.cell (World.block_lt_of_cell? w _ hx239_3)).trans hx239_3
                  have HR239_3 := Aside0.mk hi239_3
                  have HC239_3 := Aside0.mk hl239_3
                  clear hi239_3 hl239_3
                  replace p239 := eq_true p239
                  replace q239 := eq_true q239
                  go_wp2_with (first | ((with_reducible refine gate_callee (f := 31) rfl ?_); refine goesL_ (some 59) rfl rfl Tryd.func31 (by kernel_rfl) rfl #[.int .i64 ((rd_T45 l0_0 (ji31)).f0)] rfl (by (try simp only [List.map_toArray, List.map_cons, List.map_nil]); first | done | (simp only [hji31]; rfl) | rfl | (simp only [List.length_drop, List.length_take]; rfl)) ?_; (with_reducible refine (berthref13_Condition.calls ((rd_T45 l0_0 (ji31)).f0) false _ A34.out).mono ?_); rintro e w' ⟨rfl, ⟨nd, rfl⟩⟩; refine ⟨_, rfl, ?_⟩))
                  go_ret2
                  exact ⟨by first | rfl | (simp [errW_none, errW_some] <;> rfl) | (simp only [← hji31]; first | rfl | (simp [errW_none, errW_some] <;> rfl)) | (simp [*, errW_none, errW_some] <;> rfl), by repeat (first | (with_reducible first | exact HB.out | apply below_alloc | apply pw_below_drewN | apply below_drew1 | refine below_set ?_ GE223.out) | exact HB.out)⟩
              · rw [if_neg c33] at H
                exact absurd H (by simp)
            · rw [if_neg c32] at H
              exact absurd H (by simp)

/-! ### berthref13_brackets: function 32 -/
def berthref13_brackets.j0 : Nat → Int → Int → Bool → Option (Bool)
  | 0, _, _, _ => none
  | k + 1, x1, x5, x6 => if x6 = true then (if x1 = 4 then (some true) else (some (x1 == 5))) else (if x5 = 5 then (some (x1 == 5)) else (some false))
def berthref13_brackets.f (k : Nat) (a0 : Int) (a1 : Int) : Option (Bool) := if a0 = 3 then (berthref13_brackets.j0 k a1 a0 (a0 == 3)) else (berthref13_brackets.j0 k a1 a0 (a0 == 4))
theorem berthref13_brackets.mono_l : ∀ k, (∀ y0 y1 y2, LeO (berthref13_brackets.j0 k y0 y1 y2) (berthref13_brackets.j0 (k + 1) y0 y1 y2))
  | 0 => fun _ _ _ r h => by simp [berthref13_brackets.j0] at h
  | k + 1 => by
    have ih0 := berthref13_brackets.mono_l k
    · intro y0 y1 y2
      unfold berthref13_brackets.j0
      repeat' first
      | (with_reducible exact ih0 _ _ _)
      | (with_reducible exact LeO.refl _)
      | (with_reducible exact LeO.none _)
      | (with_reducible refine LeO.ite ?_ ?_)
      | (with_reducible refine LeO.bind ?_ (fun _ => ?_))
      | exact ih0 _ _ _
      | exact LeO.none _
      | refine LeO.ite ?_ ?_
      | refine LeO.bind ?_ (fun _ => ?_)
theorem berthref13_brackets.mono : ∀ a0 a1 k, LeO (berthref13_brackets.f k a0 a1) (berthref13_brackets.f (k + 1) a0 a1) := by
  intro a0 a1 k
  have ih0 := berthref13_brackets.mono_l k
  unfold berthref13_brackets.f
  repeat' first
      | (with_reducible exact ih0 _ _ _)
      | (with_reducible exact LeO.refl _)
      | (with_reducible exact LeO.none _)
      | (with_reducible refine LeO.ite ?_ ?_)
      | (with_reducible refine LeO.bind ?_ (fun _ => ?_))
      | exact ih0 _ _ _
      | exact LeO.none _
      | refine LeO.ite ?_ ?_
      | refine LeO.bind ?_ (fun _ => ?_)
set_option maxHeartbeats 8000000 in
set_option maxRecDepth 100000 in
theorem berthref13_brackets.calls (k : Nat) (a0 : Int) (a1 : Int) (r : Bool) (w : World) (h : berthref13_brackets.f k a0 a1 = some r) :
    Calls Tryd.prog 32 #[.int .i64 a0, .int .i64 a1] w fun e w' => e = .returned (.bool r) ∧ Drawn0 w w' := by
  have H : (if a0 = 3 then (berthref13_brackets.j0 k a1 a0 (a0 == 3)) else (berthref13_brackets.j0 k a1 a0 (a0 == 4))) = some r := h
  clear h
  have HC3 := Aside0.mk H
  clear H
  go_enter Tryd.func32, Tryd.ntmps32
  go_upto_if 6 with (fail)
  go_cut [6] (fun v6 wc => ∃ (kq : Nat) (x6_2 : Bool), v6 = .bool x6_2 ∧ Aside0 (berthref13_brackets.j0 kq a1 a0 x6_2 = some r) ∧ Aside0 (kq ≤ k) ∧ Drawn0 w wc)
  case first =>
    have H := HC3.out
    clear HC3
    by_cases c4 : a0 = 3
    · rw [if_pos c4] at H
      have c4b0 : (a0 == 3) = true := beq_iff_eq.mpr c4
      have c4b1 : (a0 != 3) = false := bne_eq_false_iff_eq.mpr c4
      clear c4
      (first | rw [c4b0] | (simp only [i64_w, i32_w]; rw [c4b0]) | skip)
      have H' := Aside0.mk H
      clear H
      go_wp2
      go_meet
      case rel => exact ⟨_, ((a0 == 3)), (by first | rfl | (simp; done) | (simp [*]; done)), H', ⟨by first | omega | exact Nat.le_refl _⟩, by repeat (first | exact Drawn0.refl _ | apply Drawn0.step)⟩
    · rw [if_neg c4] at H
      have c4b0 : (a0 == 3) = false := beq_eq_false_iff_ne.mpr c4
      have c4b1 : (a0 != 3) = true := bne_iff_ne.mpr c4
      (first | rw [c4b0] | (simp only [i64_w, i32_w]; rw [c4b0]) | skip)
      have H' := Aside0.mk H
      clear H
      go_wp2
      go_meet
      case rel => exact ⟨_, ((a0 == 4)), (by first | rfl | (simp; done) | (simp [*]; done)), H', ⟨by first | omega | exact Nat.le_refl _⟩, by repeat (first | exact Drawn0.refl _ | apply Drawn0.step)⟩
  case rest =>
    clear HC3
    try clear p2
    try clear c3
    try clear c4
    try clear c4b0
    try clear c4b1
    obtain ⟨kq, x6_2, rfl, HA, HJ2, ⟨mc2, rfl⟩⟩ := hcut
    cases kq with
    | zero => exact absurd HA.out (by simp [berthref13_brackets.j0])
    | succ kj2 =>
      have H := HA.out
      clear HA
      simp only [berthref13_brackets.j0] at H
      by_cases c5 : x6_2 = true
      · subst c5
        have H1 : (if a1 = 4 then (some true) else (some (a1 == 5))) = some r := by rw [if_pos rfl] at H; exact H
        clear H
        have H := H1
        clear H1
        by_cases c6 : a1 = 4
        · rw [if_pos c6] at H
          have c6b0 : (a1 == 4) = true := beq_iff_eq.mpr c6
          have c6b1 : (a1 != 4) = false := bne_eq_false_iff_eq.mpr c6
          clear c6
          obtain rfl := Option.some.inj H
          go_wp2
          go_ret
          exact ⟨by first | rfl | (simp; done) | (simp [*]; done), by repeat (first | exact Drawn0.refl _ | apply Drawn0.step)⟩
        · rw [if_neg c6] at H
          have c6b0 : (a1 == 4) = false := beq_eq_false_iff_ne.mpr c6
          have c6b1 : (a1 != 4) = true := bne_iff_ne.mpr c6
          obtain rfl := Option.some.inj H
          go_wp2
          go_ret
          exact ⟨by first | rfl | (simp; done) | (simp [*]; done), by repeat (first | exact Drawn0.refl _ | apply Drawn0.step)⟩
      · replace c5 := Bool.eq_false_iff.mpr c5
        subst c5
        have H1 : (if a0 = 5 then (some (a1 == 5)) else (some false)) = some r := by rw [if_neg (show ¬ (false = true) by decide)] at H; exact H
        clear H
        have H := H1
        clear H1
        by_cases c7 : a0 = 5
        · rw [if_pos c7] at H
          have c7b0 : (a0 == 5) = true := beq_iff_eq.mpr c7
          have c7b1 : (a0 != 5) = false := bne_eq_false_iff_eq.mpr c7
          clear c7
          obtain rfl := Option.some.inj H
          go_wp2
          go_ret
          exact ⟨by first | rfl | (simp; done) | (simp [*]; done), by repeat (first | exact Drawn0.refl _ | apply Drawn0.step)⟩
        · rw [if_neg c7] at H
          have c7b0 : (a0 == 5) = false := beq_eq_false_iff_ne.mpr c7
          have c7b1 : (a0 != 5) = true := bne_iff_ne.mpr c7
          obtain rfl := Option.some.inj H
          go_wp2
          go_ret
          exact ⟨by first | rfl | (simp; done) | (simp [*]; done), by repeat (first | exact Drawn0.refl _ | apply Drawn0.step)⟩

end Go.Proofs.YteeojceloljcbaaDoor.P
