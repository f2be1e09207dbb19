/-
  The walk of ShowOwn: a tree that is too large; what the law finds between its calls.
-/
import Derived.Test.YteeojceloljcbaaDoorOwA
import Derived.Test.YteeojceloljcbaaDoorAwake
set_option linter.unusedVariables false
set_option linter.unusedSimpArgs false
namespace Go.Proofs.YteeojceloljcbaaDoor.H
open Go.RowKit Go.Proofs.YteeojceloljcbaaDoorW.PrintWords Go.Proofs.YteeojceloljcbaaDoorW.PrintLast Go.Proofs.YteeojceloljcbaaDoor.P
set_option maxHeartbeats 4000000 in
set_option maxRecDepth 100000 in
theorem own_big (A : Option Addr) (c : Nat) (l0 : List Pt) (w : World) (h : Law w A c l0) (hl : largeB l0 = true) :
    Calls Tryd.prog 7 #[.agg #[.slice A l0.length c]] w fun e w' => e = .returned (.bool true) ∧ Below w.heap.size w w' := by
  have HL := Lib.hid h
  have AW := Lib.hid awake_true
  have LC := Lib.hid (own_large_c A c l0)
  have SV := Lib.hid (fun A' c' => show_valid A' c' l0)
  have hv : ∃ f, validSpec l0 = some f := by
    cases hv : validSpec l0 with
    | none => rw [own_small l0 hv] at hl; cases hl
    | some f => exact ⟨f, rfl⟩
  obtain ⟨⟨fc, fa⟩, hv⟩ := hv
  rw [hl] at LC
  rw [hv] at SV
  have HW := Lib.hid ((Below.refl w.heap.size w).alloc (Nat.le_refl _) (.cells #[.slice A l0.length c] 24))
  clear h hl hv
  go_enter Tryd.func7, Tryd.ntmps7
  go_wp2_with fail
  have L0 := Lib.hid (HL.out.below HW.out)
  refine (AW.out _ L0.out.tab L0.out.big).mono ?_
  rintro e w1 ⟨rfl, hB⟩
  have L1 := Lib.hid (L0.out.below hB)
  have B1 := Lib.hid (below_then HW.out HW.out.size hB)
  have hc1 : w1.cell? ⟨w.heap.size, 0, none⟩ = some (.slice A l0.length c) := pw_cell_below hB (by simp)
  clear hB
  go_wp2_with fail
  refine (LC.out _ L1.out).mono ?_
  rintro e w2 ⟨rfl, hB⟩
  have L2 := Lib.hid (L1.out.below hB)
  have B2 := Lib.hid (below_then B1.out B1.out.size hB)
  have hc2 : w2.cell? ⟨w.heap.size, 0, none⟩ = some (.slice A l0.length c) := pw_cell_below hB hc1
  clear hB hc1
  go_wp2_with fail
  refine (SV.out _ _ _ L2.out.reads L2.out.cap).mono ?_
  rintro e w3 ⟨v, rfl, hE, hB⟩
  obtain ⟨b3, rfl, _⟩ := hE
  have B3 := Lib.hid (below_then B2.out B2.out.size hB)
  clear hB
  go_wp2
  go_ret
  exact ⟨rfl, B3.out⟩
/-- What the law finds between its calls. -/
structure OwnAt (w W : World) (A : Option Addr) (c : Nat) (l0 : List Pt) (g cf z : Nat) : Prop where
  bel : Below w.heap.size w W
  law : Law W A c l0
  sp : SpAt W g l0
  in_ : Law W (some ⟨g, 0, none⟩) cf l0
  b0 : W.cell? ⟨w.heap.size, 0, none⟩ = some (.slice A l0.length c)
  b1 : W.cell? ⟨z, 0, none⟩ = some (.slice (some ⟨g, 0, none⟩) l0.length cf)
  x0 : W.cell? ⟨g, l0.length * 4, none⟩ = some (.int .i64 77)
  x4 : W.cell? ⟨g, l0.length * 4 + 4, none⟩ = some (.int .i64 78)
theorem OwnAt.below {w W W' : World} {A : Option Addr} {c : Nat} {l0 : List Pt} {g cf z : Nat} (h : OwnAt w W A c l0 g cf z) (k : Below W.heap.size W W') : OwnAt w W' A c l0 g cf z :=
  ⟨below_then h.bel h.bel.size k, h.law.below k, h.sp.below k, h.in_.below k, pw_cell_below k h.b0, pw_cell_below k h.b1, pw_cell_below k h.x0, pw_cell_below k h.x4⟩

end Go.Proofs.YteeojceloljcbaaDoor.H
