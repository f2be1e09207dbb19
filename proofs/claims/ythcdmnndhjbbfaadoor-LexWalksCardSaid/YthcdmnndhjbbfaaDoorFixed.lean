/-
  The walk of fixed.
-/
import Derived.Test.YthcdmnndhjbbfaaDoorSame
import Derived.Test.YthcdmnndhjbbfaaDoorLexF
set_option linter.unusedVariables false
set_option linter.unusedSimpArgs false
namespace Go.Proofs.YthcdmnndhjbbfaaDoor.X
open Go.RowKit
abbrev fixedS : ByteArray := { data := #[33, 120, 33, 61, 45, 49, 50] }
abbrev fixedT : List Tk := [⟨4, [33], 0, 0, 1⟩, ⟨3, [120], 0, 1, 2⟩, ⟨4, [33, 61], 0, 2, 4⟩, ⟨2, [], -12, 4, 7⟩, ⟨0, [], 0, 7, 7⟩]
set_option maxRecDepth 100000 in
theorem fixed_scan : scanL fixedS.data.toList = (fixedT, none) := by kernel_rfl
theorem tokAt_new (W : World) (ts : List Tk) (cs : Array Value) (cap : Nat) (h : cs.toList = tokRow ts) : TokAt (W.alloc (.cells cs 44)) (.slice (some ⟨W.heap.size, 0, none⟩) ts.length cap) ts := by
  refine .inr ⟨W.heap.size, cap, rfl, by simp, fun k hk j u hu => ?_⟩
  have hj : j < 5 := by have := (List.getElem?_eq_some_iff.1 hu).1; exact this
  rw [← tokRow_at ts k hk j hj, ← h] at hu
  have := Lib.cell_of_heap (Go.heap_alloc_new W (.cells cs 44)) (k * 5 + j)
  rw [this]
  simpa using hu
set_option maxHeartbeats 4000000 in
set_option maxRecDepth 100000 in
theorem fixed_any (w : World) (hL : LW w) :
    Calls Tryd.prog 17 #[] w fun e w' => e = .returned (.bool true) ∧ Below w.heap.size w w' := by
  have SC := Lib.hid (fun W h => scan_any fixedS W (by decide) h)
  rw [fixed_scan] at SC
  go_enter Tryd.func17, Tryd.ntmps17
  go_wp2_with (first | (go_at_call 18; refine (SC.out _ hL).mono ?_; rintro e w2 ⟨hB, v, hO, rfl⟩; have HB := Lib.hid hB; have HO := Lib.hid hO; clear hB hO) | (go_at_call 20; refine (same_any _ _ fixedT fixedT _ ((tokAt_of_own HO.out).kept ((Below.refl _ _).alloc (Nat.le_refl _) _)) (tokAt_new _ fixedT _ 5 rfl) (by decide) (by decide)).mono ?_; rintro e w6 ⟨he, hB6⟩; rw [decide_eq_true rfl] at he; subst he; have HB6 := Lib.hid hB6; clear hB6))
  go_ret
  exact ⟨rfl, HB.out.trans (((Below.refl _ _).alloc (Nat.le_refl _) _ |>.trans (HB6.out.mono (by simp))).mono HB.out.size)⟩

end Go.Proofs.YthcdmnndhjbbfaaDoor.X
