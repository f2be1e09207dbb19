/-
  The walk of ParseEither.
-/
import Derived.Test.YtghhnnbbjlipcaaDoorParWake
import Derived.Test.YtghhnnbbjlipcaaDoorParBg
import Derived.Test.YtghhnnbbjlipcaaDoorParForm
set_option linter.unusedVariables false
set_option linter.unusedSimpArgs false
namespace Go.Proofs.YtghhnnbbjlipcaaDoor.X
open Go.RowKit
theorem st1 (w : World) (a : Option Addr) (n c : Nat) (x : Value) (t : TypeId) : (storeCells ⟨w.heap.size, 0, none⟩ [.slice a n c]).run Tryd.prog (w.alloc (.cells #[x] t)) = .ok () (w.alloc (.cells #[.slice a n c] t)) := by
  simp [go_sem]
theorem zip_at {ps : List PD} {offs : List Nat} {k : Nat} (h1 : k < ps.length) (h2 : k < offs.length) : (ps[k], offs[k]) ∈ ps.zip offs := by
  have : (ps.zip offs)[k]? = some (ps[k], offs[k]) := by rw [List.getElem?_zip_eq_some]; exact ⟨List.getElem?_eq_getElem h1, List.getElem?_eq_getElem h2⟩
  exact List.mem_of_getElem? this
section
attribute [-go_sem] storeCells loadCells loadCellsFrom
attribute [local go_sem] H.sc1 H.sc2 H.lc2 H.sc3 st1
theorem read_err (w : World) {b : Nat} {c a : Int} (h : w.heap[b]? = some (faultObj c a)) (hc : c ≠ 0) : Calls Tryd.prog 9 #[.iface 62 (.pointer (some ⟨b, 0, none⟩))] w fun e w' => e = .returned (.agg (H.fcells c a ⟨#[]⟩)) ∧ Below w.heap.size w w' :=
  H.read_any _ (some (c, a)) w (err_is h (by simpa using hc))
set_option maxHeartbeats 8000000 in
set_option maxRecDepth 100000 in
theorem either_err (s : ByteArray) (w : World) (hs : s.size ≤ 140737488355328) (hL : LW w) (f : PF) (hr : parseL s.data.toList = .error f) (h1 : f.2 ≤ s.data.toList.length) (h2 : (110 ≤ f.1 ∧ f.1 ≤ 115) ∨ (120 ≤ f.1 ∧ f.1 ≤ 124)) :
    Calls Tryd.prog 3 #[.string s] w fun e w' => e = .returned (.bool true) ∧ Below w.heap.size w w' := by
  have HL := Lib.hid hL
  have PC := Lib.hid (fun W h => parse_c s W (by omega) h)
  rw [hr] at PC
  obtain ⟨c, a⟩ := f
  simp only at h1 h2
  have h3 : (a : Int) ≤ (s.size : Int) := by
    have h4 : s.data.toList.length = s.size := by simp
    omega
  have h0 : Hid (c ≠ 0) := Lib.hid (by omega)
  clear hL hr h1
  rcases h2 with ⟨g1, g2⟩ | ⟨g1, g2⟩
  · go_enter Tryd.func3, Tryd.ntmps3
    go_wp2_with (first
      | (go_at_call 9; refine (read_err _ ((Below.heap_alloc _ _ _ (Array.getElem?_eq_some_iff.1 HF3.out).1).trans HF3.out) h0.out).mono ?_; rintro e w4 ⟨rfl, hB4⟩; have ct : w4.cell? ⟨w3.heap.size, 0, none⟩ = some (.slice none 0 0) := cell_keep hB4 (by simp) ((Lib.cell_of_heap (Go.heap_alloc_new w3 _) 0).trans rfl); have hz4 : w3.heap.size < w4.heap.size := (by have := hB4.size; simp at this; omega); have HB4 := Lib.hid ((HB3.out.alloc HB3.out.size _).trans (hB4.mono (by simp; have := HB3.out.size; omega))); clear hB4)
      | (go_at_call 8; refine (PC.out _ (HL.out.below HB2.out)).mono ?_; rintro e w3 ⟨hB3, b, rfl, hb1, hb2⟩; have HF3 := Lib.hid hb2; have HB3 := Lib.hid (HB2.out.trans (hB3.mono HB2.out.size)); clear hB3 hb1 hb2)
      | (go_at_call 7; refine (wakes_any _ HL.out).mono ?_; rintro e w2 ⟨rfl, hB2⟩; have HB2 := Lib.hid hB2; clear hB2))
    go_ret
    exact ⟨rfl, HB4.out.alloc HB4.out.size _⟩
  · have g3 : ¬ c ≤ 115 := by omega
    have g4 : 110 ≤ c := by omega
    go_enter Tryd.func3, Tryd.ntmps3
    go_wp2_with (first
      | (go_at_call 9; refine (read_err _ ((Below.heap_alloc _ _ _ (Array.getElem?_eq_some_iff.1 HF3.out).1).trans HF3.out) h0.out).mono ?_; rintro e w4 ⟨rfl, hB4⟩; have ct : w4.cell? ⟨w3.heap.size, 0, none⟩ = some (.slice none 0 0) := cell_keep hB4 (by simp) ((Lib.cell_of_heap (Go.heap_alloc_new w3 _) 0).trans rfl); have hz4 : w3.heap.size < w4.heap.size := (by have := hB4.size; simp at this; omega); have HB4 := Lib.hid ((HB3.out.alloc HB3.out.size _).trans (hB4.mono (by simp; have := HB3.out.size; omega))); clear hB4)
      | (go_at_call 8; refine (PC.out _ (HL.out.below HB2.out)).mono ?_; rintro e w3 ⟨hB3, b, rfl, hb1, hb2⟩; have HF3 := Lib.hid hb2; have HB3 := Lib.hid (HB2.out.trans (hB3.mono HB2.out.size)); clear hB3 hb1 hb2)
      | (go_at_call 7; refine (wakes_any _ HL.out).mono ?_; rintro e w2 ⟨rfl, hB2⟩; have HB2 := Lib.hid hB2; clear hB2))
    go_ret
    exact ⟨rfl, HB4.out.alloc HB4.out.size _⟩
end
set_option maxHeartbeats 8000000 in
set_option maxRecDepth 100000 in
theorem either_ok (s : ByteArray) (w : World) (hs : s.size ≤ 140737488355328) (hL : LW w) (ps : List PD) (offs : List Nat) (hr : parseL s.data.toList = .ok (ps, offs)) (hl : ps.length = offs.length) (h1000 : ps.length ≤ 1000) (r0 : Nat) (hrun : runF [] 0 ps = some [r0])
    (hb : ∀ q ∈ ps.zip offs, ∃ hl : q.2 < s.data.toList.length, byteOK q.1 (s.data.toList[q.2])) :
    Calls Tryd.prog 3 #[.string s] w fun e w' => e = .returned (.bool true) ∧ Below w.heap.size w w' := by
  have HL := Lib.hid hL
  have PC := Lib.hid (fun W h => parse_c s W (by omega) h)
  rw [hr] at PC
  have HRun := Lib.hid hrun
  have HBy := Lib.hid hb
  have HLen := Lib.hid hl
  have hlen : offs.length = ps.length := hl.symm
  clear hL hr hrun hb hl
  go_enter Tryd.func3, Tryd.ntmps3
  go_wp2_with (first
    | (go_at_call 10; refine (form_any HRun.out h1000 (HT.out.below ((Below.refl _ w3).alloc (Nat.le_refl _) _))).mono ?_; rintro e w4 ⟨rfl, hB4⟩; have ct : w4.cell? ⟨w3.heap.size, 0, none⟩ = some (.slice av ps.length ps.length) := cell_keep hB4 (by simp) ((Lib.cell_of_heap (Go.heap_alloc_new w3 _) 0).trans rfl); have hz4 : w3.heap.size < w4.heap.size := (by have := hB4.size; simp at this; omega); have HT4 := Lib.hid (HT.out.below (((Below.refl _ w3).alloc (Nat.le_refl _) _).trans (hB4.mono (by simp)))); have HB4 := Lib.hid ((HB3.out.alloc HB3.out.size _).trans (hB4.mono (by simp; have := HB3.out.size; omega))); clear hB4)
    | (go_at_call 8; refine (PC.out _ (HL.out.below HB2.out)).mono ?_; rintro e w3 ⟨hB3, vp, vo, kv, rfl, hT⟩; obtain ⟨av, rfl⟩ := hT.parts.shp; obtain ⟨ao, rfl⟩ := hT.offs.shp; rw [← HLen.out] at hT; have HT := Lib.hid hT; have HB3 := Lib.hid (HB2.out.trans (hB3.mono HB2.out.size)); clear hB3 hT)
    | (go_at_call 7; refine (wakes_any _ HL.out).mono ?_; rintro e w2 ⟨rfl, hB2⟩; have HB2 := Lib.hid hB2; clear hB2))
  go_loopw [8] (fun v wr => ∃ k : Nat, k ≤ ps.length ∧ v = .int .i64 k ∧ Hid (Below w4.heap.size w4 wr)) (fun v _ => ps.length - (intOf v).toNat)
  case atStart => exact ⟨0, by omega, rfl, Lib.hid (Below.refl _ _)⟩
  case round =>
    obtain ⟨k, hk, rfl, HW⟩ := hrel
    have cr : wr.cell? ⟨w3.heap.size, 0, none⟩ = some (.slice av ps.length ps.length) := cell_keep HW.out hz4 ct
    by_cases hlt : k < ps.length
    · have hI : (k : Int) < (ps.length : Int) := by omega
      have hko : k < offs.length := by omega
      obtain ⟨g, a, c, hg1, hg2, hkv, d0, d1, d2, d3, hIn⟩ := HT4.out.part hlt
      have hg1' : av = some ⟨g, 0, none⟩ := (by injection hg1)
      clear hg1
      obtain ⟨go, hg3, hg4, hg5, hoc⟩ := HT4.out.offs.form (by omega)
      have hg3' : ao = some ⟨go, 0, none⟩ := (by injection hg3)
      clear hg3
      have d0 := cell_keep HW.out hg2 d0
      have d1 := cell_keep HW.out hg2 d1
      have d2 := cell_keep HW.out hg2 d2
      have d3 := cell_keep HW.out hg2 d3
      have d4 : wr.cell? ⟨go, k, none⟩ = some (.int .i64 (offs[k] : Nat)) := cell_keep HW.out hg5 (by rw [hoc k (by omega), List.getElem?_map, List.getElem?_eq_getElem hko]; rfl)
      obtain ⟨hi, hp⟩ := HBy.out _ (zip_at hlt hko)
      simp only at hi hp
      have hi2 : offs[k] < s.size := by have h5 : s.data.toList.length = s.size := (by simp); omega
      have HP : Hid (byteOK ps[k] (s[offs[k]]'hi2)) := Lib.hid hp
      have BC := Lib.hid (fun W => begins_any s offs[k] hi2 hs ps[k] a ps[k].kids.length c W HP.out)
      subst hg1'
      subst hg3'
      clear hoc hkv hIn hi hp HP
      generalize ps[k] = p at d0 d1 d2 d3 BC
      generalize offs[k] = o at d4 BC hi2
      have hgr : g < wr.heap.size := Nat.lt_of_lt_of_le hg2 HW.out.size
      clear hko
      go_wp2
      go_region_with (go_at_call 11; refine (BC.out _).mono ?_; rintro e w6 ⟨rfl, hB6⟩; have HB6 := Lib.hid ((HW.out.drew).trans (hB6.mono HW.out.size)); clear hB6)
      all_goals go_wp2
      all_goals go_roundw
      all_goals first | exact ⟨k + 1, by omega, by go_num, HB6⟩ | (simp [intOf]; omega)
    · have hI : ¬ (k : Int) < (ps.length : Int) := by omega
      go_wp2
      go_ret
      exact ⟨rfl, HB4.out.trans (HW.out.mono HB4.out.size)⟩
theorem parseEither_any (s : ByteArray) (w : World) (hs : s.size ≤ 140737488355328) (hL : LW w) :
    Calls Tryd.prog 3 #[.string s] w fun e w' => e = .returned (.bool true) ∧ Below w.heap.size w w' := by
  rcases either_cases s.data.toList with ⟨ps, offs, h1, h2, h3, ⟨r0, h4⟩, h5⟩ | ⟨f, h1, h2, h3⟩
  · exact either_ok s w hs hL ps offs h1 h2 h3 r0 h4 h5
  · exact either_err s w hs hL f h1 h2 h3

end Go.Proofs.YtghhnnbbjlipcaaDoor.X
