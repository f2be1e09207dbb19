/-
  The walk of a fault's text.
-/
import Derived.Test.YtghhnnbbjlipcaaGreatDoorTopIn
set_option linter.unusedVariables false
set_option linter.unusedSimpArgs false
namespace Go.Proofs.YtghhnnbbjlipcaaGreatDoor.X
open Go.RowKit Go.Proofs.YtghhnnbbjlipcaaGreatDoorW.PrintWords Go.Proofs.YtghhnnbbjlipcaaGreatDoorW.PrintLast
def errnoL (c : Int) : Bs := [98, 101, 114, 116, 104, 58, 32, 101, 114, 114, 111, 114, 32] ++ Lib.itoa c
def errL (c a : Int) : Bs := if 0 ≤ a then errnoL c ++ ([32, 97, 116, 32] ++ Lib.itoa a) else errnoL c
theorem errno_any (c : Int) (w : World) (hL : LW w) (h0 : -1000000 ≤ c) (h1 : c ≤ 1000000) (hi : (Lib.itoa c).length ≤ 21) : Calls Tryz.prog 166 #[.int .i64 c] w fun e w' => e = .returned (.string ⟨(errnoL c).toArray⟩) ∧ Below w.heap.size w w' := by
  have HL := Lib.hid hL
  have IC := Lib.hid (fun w h => itoa_c c (by omega) (by omega) w h)
  clear hL
  go_enter Tryz.func166, Tryz.ntmps166
  go_wp2_with (go_at_call 84; refine (IC.out _ HL.out).mono ?_; rintro e w1 ⟨rfl, hB⟩; have HB := Lib.hid hB; clear hB)
  go_ret
  exact ⟨by unfold errnoL; rfl, HB.out⟩
set_option maxHeartbeats 4000000 in
theorem error_any (c a : Int) (b : Nat) (w : World) (hL : LW w) (h0 : -1000000 ≤ c) (h1 : c ≤ 1000000) (h2 : -1000000 ≤ a) (h3 : a ≤ 1000000) (hi : (Lib.itoa c).length ≤ 21) (hj : (Lib.itoa a).length ≤ 21) (hb : b < w.heap.size)
    (c0 : w.cell? ⟨b, 0, none⟩ = some (.int .i64 c)) (c1 : w.cell? ⟨b, 1, none⟩ = some (.int .i64 a)) (c2 : w.cell? ⟨b, 2, none⟩ = some (.string ⟨#[]⟩)) (c3 : w.cell? ⟨b, 3, none⟩ = some .nilIface) :
    Calls Tryz.prog 167 #[.pointer (some ⟨b, 0, none⟩)] w fun e w' => e = .returned (.string ⟨(errL c a).toArray⟩) ∧ Below w.heap.size w w' := by
  have HL := Lib.hid hL
  have EC := Lib.hid (fun w h => errno_any c w h h0 h1 hi)
  have IC := Lib.hid (fun w h => itoa_c a (by omega) (by omega) w h)
  have hel : (errnoL c).length ≤ 40 := by unfold errnoL; simp; omega
  clear hL
  by_cases ha : 0 ≤ a
  · have hae : errL c a = errnoL c ++ ([32, 97, 116, 32] ++ Lib.itoa a) := by unfold errL; rw [if_pos ha]
    rw [hae]
    generalize errnoL c = ec at *
    generalize Lib.itoa a = ia at *
    go_enter Tryz.func167, Tryz.ntmps167
    go_wp2_with (first
      | (go_at_call 84; refine (IC.out _ (HL.out.below HB1.out)).mono ?_; rintro e w2 ⟨rfl, hB⟩; have e2 := pw_cell_below hB d2; have e3 := pw_cell_below hB d3; have HB2 := Lib.hid (HB1.out.trans (hB.mono HB1.out.size)); clear hB d1 d2 d3)
      | (go_at_call 166; refine (EC.out _ HL.out).mono ?_; rintro e w1 ⟨rfl, hB⟩; have d1 := pw_cell_below hB c1; have d2 := pw_cell_below hB c2; have d3 := pw_cell_below hB c3; have HB1 := Lib.hid hB; clear hB c0 c1 c2 c3))
    go_ret
    exact ⟨by first | rfl | (congr 2; simp; done) | (simp [ByteArray.append]; done) | (congr 2; apply ByteArray.ext; simp), HB2.out⟩
  · have hae : errL c a = errnoL c := by unfold errL; rw [if_neg ha]
    rw [hae]
    generalize errnoL c = ec at *
    go_enter Tryz.func167, Tryz.ntmps167
    go_wp2_with (go_at_call 166; refine (EC.out _ HL.out).mono ?_; rintro e w1 ⟨rfl, hB⟩; have d1 := pw_cell_below hB c1; have d2 := pw_cell_below hB c2; have d3 := pw_cell_below hB c3; have HB1 := Lib.hid hB; clear hB c0 c1 c2 c3)
    go_ret
    exact ⟨rfl, HB1.out⟩

end Go.Proofs.YtghhnnbbjlipcaaGreatDoor.X
