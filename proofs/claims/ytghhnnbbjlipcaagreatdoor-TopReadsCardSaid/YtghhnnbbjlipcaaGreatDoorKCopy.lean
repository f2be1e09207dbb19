import Derived.Test.YtghhnnbbjlipcaaGreatDoorKLeaf
-- Taken by a program of this session (pick.py) out of what print.sh printed for this seat.
namespace Go.Proofs.YtghhnnbbjlipcaaGreatDoor.P
open Go.RowKit Go.Proofs.YtghhnnbbjlipcaaGreatDoorW.PrintWords Go.Proofs.YtghhnnbbjlipcaaGreatDoorW.PrintLast Go.Proofs.YtghhnnbbjlipcaaGreatDoorW.PrintMore
attribute [local go_sem] max2_int min2_int max_two min_two max_three min_three max_four min_four
set_option linter.unusedVariables false
set_option linter.unusedSimpArgs false

/-! ### berthref13_Large: function 42 -/
def berthref13_Large.l0 : Nat → Int → Int → List (S45) → Option (Bool)
  | 0, _, _, _ => none
  | k + 1, x3, x4, x202000 => if x4 < (x202000.length : Int) then (if x3 ≤ 100000 then (if 0 ≤ x4 then (berthref13_Large.l0 k (wrap64 (x3 + (((rd_T45 x202000 x4).f3).length : Int))) (wrap64 (x4 + 1)) x202000) else (none)) else (some (decide (x3 > 100000)))) else (some (decide (x3 > 100000)))
def berthref13_Large.f (k : Nat) (l0_0 : List (S45)) : Option (Bool) := berthref13_Large.l0 k (l0_0.length : Int) 0 l0_0
theorem berthref13_Large.mono_l : ∀ k, (∀ y0 y1 y2, LeO (berthref13_Large.l0 k y0 y1 y2) (berthref13_Large.l0 (k + 1) y0 y1 y2))
  | 0 => fun _ _ _ r h => by simp [berthref13_Large.l0] at h
  | k + 1 => by
    have ih0 := berthref13_Large.mono_l k
    · intro y0 y1 y2
      unfold berthref13_Large.l0
      repeat' first
      | (with_reducible exact ih0 _ _ _)
      | (with_reducible exact LeO.refl _)
      | (with_reducible exact LeO.none _)
      | (with_reducible refine LeO.ite ?_ ?_)
      | (with_reducible refine LeO.bind ?_ (fun _ => ?_))
      | exact ih0 _ _ _
      | exact LeO.none _
      | refine LeO.ite ?_ ?_
      | refine LeO.bind ?_ (fun _ => ?_)
theorem berthref13_Large.mono : ∀ a0 k, LeO (berthref13_Large.f k a0) (berthref13_Large.f (k + 1) a0) := by
  intro a0 k
  have ih0 := berthref13_Large.mono_l k
  unfold berthref13_Large.f
  repeat' first
      | (with_reducible exact ih0 _ _ _)
      | (with_reducible exact LeO.refl _)
      | (with_reducible exact LeO.none _)
      | (with_reducible refine LeO.ite ?_ ?_)
      | (with_reducible refine LeO.bind ?_ (fun _ => ?_))
      | exact ih0 _ _ _
      | exact LeO.none _
      | refine LeO.ite ?_ ?_
      | refine LeO.bind ?_ (fun _ => ?_)

/-! ### berthref13_Copy: function 23 -/
def berthref13_Copy.l0 : Nat → List (S45) → Int → List (S45) → Option ((List (S45)))
  | 0, _, _, _ => none
  | k + 1, x4, x5, x204000 => if x5 < (x204000.length : Int) then (if 0 ≤ x5 then ((some (([] : List Int) : List Int)).bind fun y208 => (if y208.length + ((rd_T45 x204000 x5).f3).length < 17592186044416 then (if x4.length < 2513169434916 then (berthref13_Copy.l0 k (x4 ++ [(⟨(rd_T45 x204000 x5).f0, (rd_T45 x204000 x5).f1, (rd_T45 x204000 x5).f2, (y208 ++ ((rd_T45 x204000 x5).f3))⟩ : S45)]) (wrap64 (x5 + 1)) x204000) else (none)) else (none))) else (none)) else (some x4)
theorem berthref13_Copy.mono_l : ∀ k, (∀ y0 y1 y2, LeO (berthref13_Copy.l0 k y0 y1 y2) (berthref13_Copy.l0 (k + 1) y0 y1 y2))
  | 0 => fun _ _ _ r h => by simp [berthref13_Copy.l0] at h
  | k + 1 => by
    have ih0 := berthref13_Copy.mono_l k
    · intro y0 y1 y2
      unfold berthref13_Copy.l0
      repeat' first
      | (with_reducible exact ih0 _ _ _)
      | (with_reducible exact berthref13_Large.mono _ _)
      | (with_reducible exact LeO.refl _)
      | (with_reducible exact LeO.none _)
      | (with_reducible refine LeO.ite ?_ ?_)
      | (with_reducible refine LeO.bind ?_ (fun _ => ?_))
      | exact ih0 _ _ _
      | exact berthref13_Large.mono _ _
      | exact LeO.none _
      | refine LeO.ite ?_ ?_
      | refine LeO.bind ?_ (fun _ => ?_)

-- NOT PRINTED: function 12 (berthlaw06_Read)

-- NOT PRINTED: function 24 (berthlaw13_refusal)

end Go.Proofs.YtghhnnbbjlipcaaGreatDoor.P
