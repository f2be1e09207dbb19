/-
  Copy is the same tree; Large is a count: the plain law.
-/
import Derived.Test.YteeojceloljcbaaDoorRefV
set_option linter.unusedVariables false
set_option linter.unusedSimpArgs false
namespace Go.Proofs.YteeojceloljcbaaDoor.P
open Go.RowKit Go.Proofs.YteeojceloljcbaaDoorW.PrintWords Go.Proofs.YteeojceloljcbaaDoorW.PrintLast
/-- The kids of all parts. -/
def kidSum : List Pt → Nat
  | [] => 0
  | p :: ps => p.f3.length + kidSum ps
def largeB (l0 : List Pt) : Bool := decide (100000 < l0.length + kidSum l0)
/-- No list of kids is longer than this. -/
def Small (l0 : List Pt) : Prop := l0.length ≤ 140737488355328 ∧ ∀ j, j < l0.length → (rd_T45 l0 (j : Int)).f3.length ≤ 140737488355328
theorem large_go (l0 : List Pt) (hS : Small l0) : ∀ (d i n : Nat) (r : Bool), d = l0.length - i → i ≤ l0.length → n ≤ 281474976810656 → (r = true ↔ 100000 < n + kidSum (l0.drop i)) → Ev (fun k => berthref13_Large.l0 k (n : Int) (i : Int) l0) r
  | 0, i, n, r, hd, hi, hn, hr => by
    obtain rfl : i = l0.length := by omega
    rw [List.drop_length] at hr
    refine Ev.step (f := fun _ => some r) (fun k => ?_) (Ev.now _)
    simp only [berthref13_Large.l0, if_neg (Int.lt_irrefl _)]
    congr 1
    rw [Bool.eq_iff_iff, hr, decide_eq_true_eq]
    simp only [kidSum]; omega
  | d + 1, i, n, r, hd, hi, hn, hr => by
    have hS1 := hS.1
    have hlt : i < l0.length := by omega
    have h1 : (i : Int) < (l0.length : Int) := by omega
    have h2 : (0 : Int) ≤ (i : Int) := by omega
    have hw1 : wrap64 ((i : Int) + 1) = ((i + 1 : Nat) : Int) := by unfold wrap64; omega
    have hk := hS.2 i hlt
    rw [drop_part l0 i hlt] at hr
    simp only [kidSum] at hr
    by_cases h3 : (n : Int) ≤ 100000
    · have hw : wrap64 ((n : Int) + ((rd_T45 l0 (i : Int)).f3.length : Int)) = ((n + (rd_T45 l0 (i : Int)).f3.length : Nat) : Int) := by unfold wrap64; omega
      have ih := large_go l0 hS d (i + 1) (n + (rd_T45 l0 (i : Int)).f3.length) r (by omega) hlt (by omega) (by rw [hr, Nat.add_assoc])
      exact Ev.step (fun k => by simp only [berthref13_Large.l0, if_pos h1, if_pos h3, if_pos h2, hw, hw1]) ih
    · obtain rfl : r = true := hr.2 (by omega)
      refine Ev.step (f := fun _ => some true) (fun k => ?_) (Ev.now _)
      simp only [berthref13_Large.l0, if_pos h1, if_neg h3]
      congr 1
      rw [decide_eq_true_eq]; omega
theorem large_ev (l0 : List Pt) (hS : Small l0) : Ev (fun k => berthref13_Large.f k l0) (largeB l0) :=
  large_go l0 hS l0.length 0 l0.length _ rfl (Nat.zero_le _) (by have := hS.1; omega) (by simp [largeB])
theorem kids_le_sum : ∀ (l : List Pt) (j : Nat), j < l.length → (rd_T45 l (j : Int)).f3.length ≤ kidSum l
  | [], j, h => absurd h (Nat.not_lt_zero _)
  | p :: ps, 0, _ => by simp [rd_T45, kidSum]
  | p :: ps, j + 1, h => by
    have ih := kids_le_sum ps j (by simpa using h)
    have e : rd_T45 (p :: ps) ((j + 1 : Nat) : Int) = rd_T45 ps (j : Int) := by
      show (p :: ps).getD ((j + 1 : Nat) : Int).toNat _ = ps.getD ((j : Nat) : Int).toNat _
      rw [Int.toNat_natCast, Int.toNat_natCast]; rfl
    rw [e]; simp only [kidSum]; omega
theorem copy_go (l0 : List Pt) (hS : l0.length + kidSum l0 ≤ 100000) : ∀ (d i : Nat), d = l0.length - i → i ≤ l0.length → Ev (fun k => berthref13_Copy.l0 k (l0.take i) (i : Int) l0) l0
  | 0, i, hd, hi => by
    obtain rfl : i = l0.length := by omega
    rw [List.take_length]
    exact Ev.step (f := fun _ => some l0) (fun k => by simp only [berthref13_Copy.l0, if_neg (Int.lt_irrefl _)]) (Ev.now _)
  | d + 1, i, hd, hi => by
    have hlt : i < l0.length := by omega
    have h1 : (i : Int) < (l0.length : Int) := by omega
    have h2 : (0 : Int) ≤ (i : Int) := by omega
    have hw1 : wrap64 ((i : Int) + 1) = ((i + 1 : Nat) : Int) := by unfold wrap64; omega
    have hk := kids_le_sum l0 i hlt
    have ih := copy_go l0 hS d (i + 1) (by omega) hlt
    have ht : l0.take i ++ [rd_T45 l0 (i : Int)] = l0.take (i + 1) := by
      rw [List.take_succ_eq_append_getElem hlt]
      congr 2
      simp [rd_T45, List.getD_eq_getElem?_getD, List.getElem?_eq_getElem hlt]
    refine Ev.step (fun k => ?_) ih
    simp only [berthref13_Copy.l0, if_pos h1, if_pos h2, Option.bind_some, List.nil_append, List.length_nil, Nat.zero_add, hw1]
    rw [if_pos (by omega), if_pos (by simp; omega)]
    rw [ht]
theorem copy_ev (l0 : List Pt) (hS : Small l0) : Ev (fun k => berthref13_Copy.f k l0) l0 := by
  refine Ev.bind (large_ev l0 hS) ?_
  cases hl : largeB l0 with
  | true => exact Ev.congr (f := fun _ => some l0) (fun k => by simp) (Ev.now _)
  | false => exact Ev.congr (f := fun k => berthref13_Copy.l0 k (l0.take 0) ((0 : Nat) : Int) l0) (fun k => by simp) (copy_go l0 (by simp [largeB] at hl; exact hl) l0.length 0 rfl (Nat.zero_le _))

end Go.Proofs.YteeojceloljcbaaDoor.P
