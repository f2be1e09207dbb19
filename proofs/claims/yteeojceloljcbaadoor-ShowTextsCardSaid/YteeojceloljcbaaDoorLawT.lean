/-
  The walk of the law ShowTexts, over a tree as memory holds it.
-/
import Derived.Test.YteeojceloljcbaaDoorTextT
set_option linter.unusedVariables false
set_option linter.unusedSimpArgs false
namespace Go.Proofs.YteeojceloljcbaaDoor.H
open Go.RowKit Go.Proofs.YteeojceloljcbaaDoorW.PrintWords Go.Proofs.YteeojceloljcbaaDoorW.PrintLast Go.Proofs.YteeojceloljcbaaDoor.P

theorem textSpec_code {l0 : List Pt} {c a : Int} (h : (textSpec l0).2 = some (c, a)) : c ≠ 0 := by
  unfold textSpec at h
  split at h
  · rename_i f hv
    injection h with h
    subst h
    exact validSpec_code hv
  · split at h
    · injection h with h; injection h with h1 h2; omega
    · cases h
theorem refusalT_c (v : Value) (l0 : List Pt) (w : World) (h : ErrIs w v (textSpec l0).2) :
    Calls Tryd.prog 10 #[v, .int .i64 (enc (textSpec l0).2).1, .int .i64 (enc (textSpec l0).2).2] w fun e w' => e = .returned (.bool true) ∧ Below w.heap.size w w' :=
  refusal_any v (textSpec l0).2 _ _ w h true (enc_true _ (fun c a e => textSpec_code e))

set_option maxHeartbeats 4000000 in
set_option maxRecDepth 100000 in
theorem law_texts (A : Option Addr) (c : Nat) (l0 : List Pt) (w : World) (h : Law w A c l0) :
    Calls Tryd.prog 5 #[.agg #[.slice A l0.length c]] w fun e w' => e = .returned (.bool true) ∧ Below w.heap.size w w' := by
  have HL := Lib.hid h
  have HW := Lib.hid ((Below.refl w.heap.size w).alloc (Nat.le_refl _) (.cells #[.slice A l0.length c] 24))
  have AW := Lib.hid awake_true
  have RT := Lib.hid (refText_any A c l0)
  have CC := Lib.hid (copy_c A c l0)
  have RC := Lib.hid (fun v W => refusalT_c v l0 W)
  have ST := Lib.hid (fun A' c' => show_text A' c' l0)
  unfold RefText at RT
  unfold TextAns at ST
  generalize textSpec l0 = ts at *
  obtain ⟨tb, o⟩ := ts
  simp only at RT RC ST
  generalize enc o = eo at *
  obtain ⟨ec, ea⟩ := eo
  clear h
  go_enter Tryd.func5, Tryd.ntmps5
  go_wp2_with fail
  have L0 := Lib.hid (HL.out.below HW.out)
  refine (AW.out _ L0.out.tab L0.out.big).mono ?_
  rintro e w1 ⟨rfl, hB⟩
  have L1 := Lib.hid (L0.out.below hB)
  have B1 := Lib.hid (below_then HW.out HW.out.size hB)
  have hc1 : w1.cell? ⟨w.heap.size, 0, none⟩ = some (.slice A l0.length c) := pw_cell_below hB (by simp)
  clear hB
  go_wp2_with fail
  refine (CC.out _ L1.out).mono ?_
  rintro e w2 ⟨A', c', rfl, hL3, hB⟩
  have L3 := Lib.hid hL3
  have L2 := Lib.hid (L1.out.below hB)
  have B2 := Lib.hid (below_then B1.out B1.out.size hB)
  have hc2 : w2.cell? ⟨w.heap.size, 0, none⟩ = some (.slice A l0.length c) := pw_cell_below hB hc1
  clear hB hL3 hc1
  go_wp2_with fail
  refine (ST.out _ _ _ L3.out.tree L3.out.cap L3.out.tab L3.out.big).mono ?_
  rintro e w3 ⟨v, rfl, hE, hB⟩
  have E3 := Lib.hid hE
  have L4 := Lib.hid (L2.out.below hB)
  have B3 := Lib.hid (below_then B2.out B2.out.size hB)
  have hc3 : w3.cell? ⟨w.heap.size, 0, none⟩ = some (.slice A l0.length c) := pw_cell_below hB hc2
  clear hB hE hc2
  go_wp2_with fail
  refine (RT.out _ L4.out).mono ?_
  rintro e w4 ⟨rfl, hB⟩
  have E4 := Lib.hid (E3.out.below hB)
  have B4 := Lib.hid (below_then B3.out B3.out.size hB)
  clear hB
  go_wp2_with fail
  refine (RC.out _ _ E4.out).mono ?_
  rintro e w5 ⟨rfl, hB⟩
  have B5 := Lib.hid (below_then B4.out B4.out.size hB)
  clear hB
  go_wp2
  go_ret
  exact ⟨rfl, B5.out⟩
end Go.Proofs.YteeojceloljcbaaDoor.H
