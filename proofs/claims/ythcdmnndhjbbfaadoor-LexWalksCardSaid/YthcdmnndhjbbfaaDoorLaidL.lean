/-
  What the rows' cell 'laid' gives: the table and the two errors.
-/
import Derived.Test.YthcdmnndhjbbfaaDoorLexN
import Derived.Test.YthcdmnndhjbbfaaDoorRows
import Derived.Stop.LaidErr
import Derived.Lib.LaidTab
set_option linter.unusedVariables false
set_option linter.unusedSimpArgs false
namespace Go.Proofs.YthcdmnndhjbbfaaDoor.X
open Go.RowKit
theorem gTabType : (Tryd.prog.globals[0]?).map (·.type) = some 91 := by kernel_rfl
theorem gSynType : (Tryd.prog.globals[1]?).map (·.type) = some 26 := by kernel_rfl
theorem gRanType : (Tryd.prog.globals[2]?).map (·.type) = some 26 := by kernel_rfl
theorem cellsTab : Tryd.prog.cellsOf 91 = 20 := by kernel_rfl
theorem cellsU64 : Tryd.prog.cellsOf 76 = 1 := by kernel_rfl
theorem cellsES : Tryd.prog.cellsOf 112 = 1 := by kernel_rfl
theorem cellsStr' : Tryd.prog.cellsOf 9 = 1 := by kernel_rfl
theorem rowES (u : TypeId) (h : Tryd.prog.typeName? 3 u = some "*errors.errorString") : u = 110 :=
  typeName_ptr_named (nm := "errors.errorString") (by kernel_rfl) (by kernel_rfl) (by decide) u h
theorem laidMet_tl {P : Program} {x : String × DataW Unit} {r : List (String × DataW Unit)} {w : World} (h : laidMet P (x :: r) w) : laidMet P r w := by
  obtain ⟨ps, ⟨g, t, cs, fuel, p, q, _, _, _, _, h1, rfl⟩, hnd, hc⟩ := h
  exact ⟨q, h1, (List.nodup_append.1 hnd).2.1, fun b off hb => hc b off (List.mem_append_right _ hb)⟩
theorem lw_of_laid {W : World} (h : laidMetH Tryd.prog Rows.lexScansRow.laid W) (hS : W.ShapedOpen Tryd.prog) : LW W := by
  have hbig : 8 < W.heap.size := by
    obtain ⟨o, o0, h1, _⟩ := hS.2 8 (of_decide_eq_true (by kernel_rfl)) (of_decide_eq_true (by kernel_rfl))
    exact (Array.getElem?_eq_some_iff.1 h1).1
  have h3 := laidMet_tl (laidMet_tl h)
  have h4 := laidMet_tl h3
  have h5 := laidMet_tl h4
  obtain ⟨a0, s0, hv0, -, -, -⟩ := laid_sentinel h4 gRan gRanType Tryd.underlying26 rowES Tryd.underlying110 Tryd.underlying112 rfl rfl Tryd.underlying9 cellsES cellsStr'
  obtain ⟨a1, s1, hv1, -, -, -⟩ := laid_sentinel h5 gSyn gSynType Tryd.underlying26 rowES Tryd.underlying110 Tryd.underlying112 rfl rfl Tryd.underlying9 cellsES cellsStr'
  exact ⟨Lib.tabIs_of_head gTab gTabType Tryd.underlying91 Tryd.underlying76 cellsU64 cellsTab h3, ⟨_, _, hv1⟩, ⟨_, _, hv0⟩, hbig⟩

end Go.Proofs.YthcdmnndhjbbfaaDoor.X
