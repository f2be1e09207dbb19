/-
  The walks of the laws ShowValid and ShowNests, over a tree as memory holds it.
-/
import Derived.Test.YteeojceloljcbaaDoorAwake
import Derived.Test.YteeojceloljcbaaDoorCopyL
set_option linter.unusedVariables false
set_option linter.unusedSimpArgs false
namespace Go.Proofs.YteeojceloljcbaaDoor.H
open Go.RowKit Go.Proofs.YteeojceloljcbaaDoorW.PrintWords Go.Proofs.YteeojceloljcbaaDoorW.PrintLast Go.Proofs.YteeojceloljcbaaDoor.P
/-- What a law finds: a tree in memory, the library's table. -/
structure Law (w : World) (A : Option Addr) (c : Nat) (l0 : List Pt) : Prop where
  tree : Kd.F k45 w (fun _ => True) A l0.length l0
  cap : l0.length ≤ c
  small : Small l0
  tab : Lib.TabIs Tryd.prog w "internal/strconv.uint64pow10" .u64 Lib.pow10Tab
  big : 0 < w.heap.size
theorem Law.below {w w' : World} {A : Option Addr} {c : Nat} {l0 : List Pt} (h : Law w A c l0) (k : Below w.heap.size w w') : Law w' A c l0 :=
  ⟨Kd.F_mono (Kd.F_step (Kd.F_bound h.tree) (fun j hj hl => k.block j hl)) (fun _ _ => trivial), h.cap, h.small, var?_below k gTab h.big h.tab, Nat.lt_of_lt_of_le h.big k.size⟩
theorem Law.reads {w : World} {A : Option Addr} {c : Nat} {l0 : List Pt} (h : Law w A c l0) : Kd.C k45 w A l0.length l0 := Kd.F_now h.tree
/-- A call of Copy. -/
theorem copy_c (A : Option Addr) (c : Nat) (l0 : List Pt) (w : World) (h : Law w A c l0) :
    Calls Tryd.prog 12 #[.agg #[.slice A l0.length c]] w fun e w' => ∃ A' c', e = .returned (.agg #[.slice A' l0.length c']) ∧ Law w' A' c' l0 ∧ Below w.heap.size w w' := by
  obtain ⟨k, hk⟩ := (copy_ev l0 h.small).rounds
  refine (berthref13_Copy.calls k (fun _ => True) A c l0 l0 w ⟨A, c, rfl, h.cap, h.tree⟩ hk).mono ?_
  rintro e w' ⟨v, rfl, ⟨A', c', rfl, hc, hF⟩, hB⟩
  exact ⟨A', c', rfl, ⟨Kd.F_mono hF (fun _ _ => trivial), hc, h.small, var?_below hB gTab h.big h.tab, Nat.lt_of_lt_of_le h.big hB.size⟩, hB⟩
theorem refValid_c (A : Option Addr) (c : Nat) (l0 : List Pt) (w : World) (h : Law w A c l0) :
    Calls Tryd.prog 9 #[.agg #[.slice A l0.length c]] w fun e w' => e = .returned (.tuple #[.int .i64 (enc (validSpec l0)).1, .int .i64 (enc (validSpec l0)).2]) ∧ Below w.heap.size w w' := by
  obtain ⟨k, hk⟩ := (ref_valid_ev l0).rounds
  exact berthref13_Valid.calls k A c l0 _ _ w h.reads h.cap hk
theorem refNest_c (A : Option Addr) (c : Nat) (l0 : List Pt) (w : World) (h : Law w A c l0) :
    Calls Tryd.prog 14 #[.agg #[.slice A l0.length c]] w fun e w' => e = .returned (.tuple #[.int .i64 (nestOf l0), .int .i64 (enc (validSpec l0)).1, .int .i64 (enc (validSpec l0)).2]) ∧ Below w.heap.size w w' := by
  obtain ⟨k, hk⟩ := (ref_nest_ev l0).rounds
  exact berthref13_Nest.calls k A c l0 _ _ _ w h.reads h.cap hk
theorem enc_true (o : Option (Int × Int)) (h : ∀ c a, o = some (c, a) → c ≠ 0) : true = (if (enc o).1 = 0 then o.isNone else (o == some ((enc o).1, (enc o).2))) := by
  cases o with
  | none => rfl
  | some x =>
    obtain ⟨c, a⟩ := x
    have := h c a rfl
    simp [enc, this]
theorem refusal_c (v : Value) (l0 : List Pt) (w : World) (h : ErrIs w v (validSpec l0)) :
    Calls Tryd.prog 10 #[v, .int .i64 (enc (validSpec l0)).1, .int .i64 (enc (validSpec l0)).2] w fun e w' => e = .returned (.bool true) ∧ Below w.heap.size w w' :=
  refusal_any v (validSpec l0) _ _ w h true (enc_true _ (fun c a e => validSpec_code e))

set_option maxHeartbeats 4000000 in
set_option maxRecDepth 100000 in
theorem law_valid (A : Option Addr) (c : Nat) (l0 : List Pt) (w : World) (h : Law w A c l0) :
    Calls Tryd.prog 3 #[.agg #[.slice A l0.length c]] w fun e w' => e = .returned (.bool true) ∧ Below w.heap.size w w' := by
  have HL := Lib.hid h
  have HW := Lib.hid ((Below.refl w.heap.size w).alloc (Nat.le_refl _) (.cells #[.slice A l0.length c] 24))
  have AW := Lib.hid awake_true
  have RV := Lib.hid (refValid_c A c l0)
  have CC := Lib.hid (copy_c A c l0)
  have RC := Lib.hid (fun v W => refusal_c v l0 W)
  have SV := Lib.hid (fun A' c' => show_valid A' c' l0)
  generalize validSpec l0 = o at *
  generalize enc o = eo at *
  obtain ⟨ec, ea⟩ := eo
  clear h
  go_enter Tryd.func3, Tryd.ntmps3
  go_wp2_with fail
  have L0 := Lib.hid (HL.out.below HW.out)
  refine (AW.out _ L0.out.tab L0.out.big).mono ?_
  rintro e w1 ⟨rfl, hB⟩
  have L1 := Lib.hid (L0.out.below hB)
  have B1 := Lib.hid (below_then HW.out HW.out.size hB)
  have hc1 : w1.cell? ⟨w.heap.size, 0, none⟩ = some (.slice A l0.length c) := pw_cell_below hB (by simp)
  clear hB
  go_wp2_with fail
  refine (RV.out _ L1.out).mono ?_
  rintro e w2 ⟨rfl, hB⟩
  have L2 := Lib.hid (L1.out.below hB)
  have B2 := Lib.hid (below_then B1.out B1.out.size hB)
  have hc2 : w2.cell? ⟨w.heap.size, 0, none⟩ = some (.slice A l0.length c) := pw_cell_below hB hc1
  clear hB hc1
  go_wp2_with fail
  refine (CC.out _ L2.out).mono ?_
  rintro e w3 ⟨A', c', rfl, hL3, hB⟩
  have L3 := Lib.hid hL3
  have B3 := Lib.hid (below_then B2.out B2.out.size hB)
  clear hB hL3 hc2
  go_wp2_with fail
  refine (SV.out _ _ _ L3.out.reads L3.out.cap).mono ?_
  rintro e w4 ⟨v, rfl, hE, hB⟩
  have E4 := Lib.hid hE
  have B4 := Lib.hid (below_then B3.out B3.out.size hB)
  clear hB hE
  go_wp2_with fail
  refine (RC.out _ _ E4.out).mono ?_
  rintro e w5 ⟨rfl, hB⟩
  have B5 := Lib.hid (below_then B4.out B4.out.size hB)
  clear hB
  go_wp2
  go_ret
  exact ⟨rfl, B5.out⟩
set_option maxHeartbeats 4000000 in
set_option maxRecDepth 100000 in
theorem law_nests (A : Option Addr) (c : Nat) (l0 : List Pt) (w : World) (h : Law w A c l0) :
    Calls Tryd.prog 4 #[.agg #[.slice A l0.length c]] w fun e w' => e = .returned (.bool true) ∧ Below w.heap.size w w' := by
  have HL := Lib.hid h
  have HW := Lib.hid ((Below.refl w.heap.size w).alloc (Nat.le_refl _) (.cells #[.slice A l0.length c] 24))
  have AW := Lib.hid awake_true
  have RN := Lib.hid (refNest_c A c l0)
  have CC := Lib.hid (copy_c A c l0)
  have RC := Lib.hid (fun v W => refusal_c v l0 W)
  have SN := Lib.hid (fun A' c' => show_nest A' c' l0)
  generalize validSpec l0 = o at *
  generalize enc o = eo at *
  generalize nestOf l0 = nn at *
  obtain ⟨ec, ea⟩ := eo
  clear h
  go_enter Tryd.func4, Tryd.ntmps4
  go_wp2_with fail
  have L0 := Lib.hid (HL.out.below HW.out)
  refine (AW.out _ L0.out.tab L0.out.big).mono ?_
  rintro e w1 ⟨rfl, hB⟩
  have L1 := Lib.hid (L0.out.below hB)
  have B1 := Lib.hid (below_then HW.out HW.out.size hB)
  have hc1 : w1.cell? ⟨w.heap.size, 0, none⟩ = some (.slice A l0.length c) := pw_cell_below hB (by simp)
  clear hB
  go_wp2_with fail
  refine (CC.out _ L1.out).mono ?_
  rintro e w2 ⟨A', c', rfl, hL3, hB⟩
  have L3 := Lib.hid hL3
  have L2 := Lib.hid (L1.out.below hB)
  have B2 := Lib.hid (below_then B1.out B1.out.size hB)
  have hc2 : w2.cell? ⟨w.heap.size, 0, none⟩ = some (.slice A l0.length c) := pw_cell_below hB hc1
  clear hB hL3 hc1
  go_wp2_with fail
  refine (SN.out _ _ _ L3.out.reads L3.out.cap).mono ?_
  rintro e w3 ⟨v, rfl, hE, hB⟩
  have E3 := Lib.hid hE
  have L4 := Lib.hid (L2.out.below hB)
  have B3 := Lib.hid (below_then B2.out B2.out.size hB)
  have hc3 : w3.cell? ⟨w.heap.size, 0, none⟩ = some (.slice A l0.length c) := pw_cell_below hB hc2
  clear hB hE hc2
  go_wp2_with fail
  refine (RN.out _ L4.out).mono ?_
  rintro e w4 ⟨rfl, hB⟩
  have E4 := Lib.hid (E3.out.below hB)
  have B4 := Lib.hid (below_then B3.out B3.out.size hB)
  clear hB
  go_wp2_with fail
  refine (RC.out _ _ E4.out).mono ?_
  rintro e w5 ⟨rfl, hB⟩
  have B5 := Lib.hid (below_then B4.out B4.out.size hB)
  clear hB
  go_wp2
  go_ret
  exact ⟨rfl, B5.out⟩

end Go.Proofs.YteeojceloljcbaaDoor.H
