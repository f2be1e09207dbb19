/-
  What the rows' cell 'laid' gives: the table and the two errors.
-/
import Derived.Test.YtfiljgkcipnghaaGreatDoorLexN
import Derived.Test.YtfiljgkcipnghaaGreatDoorRows
import Derived.Stop.LaidErr
import Derived.Lib.LaidTab
set_option linter.unusedVariables false
set_option linter.unusedSimpArgs false
namespace Go.Proofs.YtfiljgkcipnghaaGreatDoor.X
open Go.RowKit
theorem gTabType : (Tryz.prog.globals[0]?).map (·.type) = some 172 := by kernel_rfl
theorem gSynType : (Tryz.prog.globals[1]?).map (·.type) = some 28 := by kernel_rfl
theorem gRanType : (Tryz.prog.globals[2]?).map (·.type) = some 28 := by kernel_rfl
theorem cellsTab : Tryz.prog.cellsOf 172 = 20 := by kernel_rfl
theorem cellsU64 : Tryz.prog.cellsOf 153 = 1 := by kernel_rfl
theorem cellsES : Tryz.prog.cellsOf 184 = 1 := by kernel_rfl
theorem cellsStr' : Tryz.prog.cellsOf 9 = 1 := by kernel_rfl
theorem rowES (u : TypeId) (h : Tryz.prog.typeName? 3 u = some "*errors.errorString") : u = 182 :=
  typeName_ptr_named (nm := "errors.errorString") (by kernel_rfl) (by kernel_rfl) (by decide) u h
theorem laidMet_tl {P : Program} {x : String × DataW Unit} {r : List (String × DataW Unit)} {w : World} (h : laidMet P (x :: r) w) : laidMet P r w := by
  obtain ⟨ps, ⟨g, t, cs, fuel, p, q, _, _, _, _, h1, rfl⟩, hnd, hc⟩ := h
  exact ⟨q, h1, (List.nodup_append.1 hnd).2.1, fun b off hb => hc b off (List.mem_append_right _ hb)⟩
theorem lw_of_laid {W : World} (h : laidMetH Tryz.prog Rows.topShowsRow.laid W) (hS : W.ShapedOpen Tryz.prog) : LW W := by
  have hbig : 8 < W.heap.size := by
    obtain ⟨o, o0, h1, _⟩ := hS.2 16 (of_decide_eq_true (by kernel_rfl)) (of_decide_eq_true (by kernel_rfl))
    exact Nat.lt_trans (by decide) (Array.getElem?_eq_some_iff.1 h1).1
  have h3 := laidMet_tl (laidMet_tl h)
  have h4 := laidMet_tl h3
  have h5 := laidMet_tl h4
  obtain ⟨a0, s0, hv0, -, -, -⟩ := laid_sentinel h4 gRan gRanType Tryz.underlying28 rowES Tryz.underlying182 Tryz.underlying184 rfl rfl Tryz.underlying9 cellsES cellsStr'
  obtain ⟨a1, s1, hv1, -, -, -⟩ := laid_sentinel h5 gSyn gSynType Tryz.underlying28 rowES Tryz.underlying182 Tryz.underlying184 rfl rfl Tryz.underlying9 cellsES cellsStr'
  exact ⟨Lib.tabIs_of_head gTab gTabType Tryz.underlying172 Tryz.underlying153 cellsU64 cellsTab h3, ⟨_, _, hv1⟩, ⟨_, _, hv0⟩, hbig⟩

end Go.Proofs.YtfiljgkcipnghaaGreatDoor.X
