/-
  The walk of ShowSource.
  The walk of TopReads.
-/
import Derived.Test.YtghhnnbbjlipcaaGreatDoorVdPl
import Derived.Test.YtghhnnbbjlipcaaGreatDoorTopIn
import Derived.Test.YtghhnnbbjlipcaaGreatDoorTextAll
import Derived.Test.YtghhnnbbjlipcaaGreatDoorPlAll
set_option linter.unusedVariables false
set_option linter.unusedSimpArgs false
namespace Go.Proofs.YtghhnnbbjlipcaaGreatDoor.X
open Go.RowKit Go.Proofs.YtghhnnbbjlipcaaGreatDoorW.PrintWords Go.Proofs.YtghhnnbbjlipcaaGreatDoorW.PrintLast
/-- The tree that parse has made, as a law about trees finds it. -/
structure Made (w : World) (A : Option Addr) (l0 : List P.Pt) : Prop where
  law : H.Law w A l0.length l0
  lw : LW w
theorem Made.below {w w' : World} {A : Option Addr} {l0 : List P.Pt} (h : Made w A l0) (k : Below w.heap.size w w') : Made w' A l0 := ⟨h.law.below k, h.lw.below k⟩
/-- What is known of a source's tree. -/
structure Src0 (l0 : List P.Pt) (ps : List PD) : Prop where
  eq : ps.map ofPD = l0
  back : toPDs l0 = ps
  len : ps.length = l0.length
  few : l0.length ≤ 1000
  valid : P.validSpec l0 = none
  small : P.Small l0
  kids : ∀ p ∈ l0, p.f3.length ≤ 140737488355328
  kids' : ∀ p ∈ ps, p.kids.length ≤ 140737488355328
theorem src0 {l : Bs} {ps : List PD} {offs : List Nat} (h : parseL l = .ok (ps, offs)) : Src0 (ps.map ofPD) ps := by
  obtain ⟨hv, hp, h1000, _⟩ := parse_valid h
  have hS := P.formSpec_shape _ (valid_parts hv).1
  have hk : ∀ j, j < (ps.map ofPD).length → (P.rd_T45 (ps.map ofPD) (j : Int)).f3.length ≤ 1000 := fun j hj => by
    have := (hS.parts j hj).few
    have := hS.few
    omega
  have hk' : ∀ p ∈ ps, p.kids.length ≤ 1000 := fun p hp => by
    obtain ⟨j, hj, rfl⟩ := List.mem_iff_getElem.1 hp
    have := hk j (by simpa using hj)
    rw [rd_of hj] at this
    simpa [ofPD, at_, List.getD_eq_getElem?_getD, List.getElem?_eq_getElem hj] using this
  exact ⟨rfl, pds_of ps, by simp, by simpa using h1000, hv, ⟨by simp; omega, fun j hj => by have := hk j hj; omega⟩, fun p hp => by
    obtain ⟨q, hq, rfl⟩ := List.mem_map.1 hp
    have := hk' q hq
    simp [ofPD]; omega, fun p hp => by have := hk' p hp; omega⟩
theorem made_of {w : World} {base : Nat} {vp vo : Value} {kv : List Value} {ps : List PD} {l0 : List P.Pt} {offs : List Nat} (h : TreeAt w base vp vo kv ps offs) (hs : Src0 l0 ps) (hL : LW w) : ∃ A, vp = .slice A l0.length l0.length ∧ Made w A l0 := by
  obtain ⟨A, hv, hF⟩ := tree_F h (by rw [hs.len]; have := hs.few; omega) hs.kids'
  rw [hs.eq] at hF
  rw [hs.len] at hF hv
  exact ⟨A, hv, ⟨hF, Nat.le_refl _, hs.small, hL.tab, tab_big hL⟩, hL⟩

end Go.Proofs.YtghhnnbbjlipcaaGreatDoor.X
set_option linter.unusedVariables false
set_option linter.unusedSimpArgs false
namespace Go.Proofs.YtghhnnbbjlipcaaGreatDoor.X
open Go.RowKit Go.Proofs.YtghhnnbbjlipcaaGreatDoorW.PrintWords Go.Proofs.YtghhnnbbjlipcaaGreatDoorW.PrintLast
theorem st1t (w : World) (a : Option Addr) (n c : Nat) (x : Value) (t : TypeId) : (storeCells ⟨w.heap.size, 0, none⟩ [.slice a n c]).run Tryz.prog (w.alloc (.cells #[x] t)) = .ok () (w.alloc (.cells #[.slice a n c] t)) := by
  simp [go_sem]
theorem zip_att {ps : List PD} {offs : List Nat} {k : Nat} (h1 : k < ps.length) (h2 : k < offs.length) : (ps[k], offs[k]) ∈ ps.zip offs := by
  have : (ps.zip offs)[k]? = some (ps[k], offs[k]) := by rw [List.getElem?_zip_eq_some]; exact ⟨List.getElem?_eq_getElem h1, List.getElem?_eq_getElem h2⟩
  exact List.mem_of_getElem? this
theorem read_errt (w : World) {b : Nat} {c a : Int} (h : w.heap[b]? = some (faultObj c a)) (hc : c ≠ 0) : Calls Tryz.prog 12 #[.iface 64 (.pointer (some ⟨b, 0, none⟩))] w fun e w' => e = .returned (.agg (H.fcells c a ⟨#[]⟩)) ∧ Below w.heap.size w w' :=
  H.read_any _ (some (c, a)) w (err_is h (by simpa using hc))
section
attribute [-go_sem] storeCells loadCells loadCellsFrom
attribute [local go_sem] H.sc1 H.sc2 H.lc2 H.sc3 st1t
set_option maxHeartbeats 8000000 in
set_option maxRecDepth 100000 in
theorem topReads_err (s : ByteArray) (w : World) (hs : s.size ≤ 140737488355328) (hL : LW w) (f : PF) (hr : parseL s.data.toList = .error f) (h1 : f.2 ≤ s.data.toList.length) (h2 : 0 < f.1) :
    Calls Tryz.prog 5 #[.string s] w fun e w' => e = .returned (.bool true) ∧ Below w.heap.size w w' := by
  have HL := Lib.hid hL
  have PC := Lib.hid (fun W h => parse_c s W (by omega) h)
  rw [hr] at PC
  obtain ⟨c, a⟩ := f
  simp only at h1 h2
  have h3 : (a : Int) ≤ (s.size : Int) := by
    have h4 : s.data.toList.length = s.size := by simp
    omega
  have h0 : Hid (c ≠ 0) := Lib.hid (by omega)
  clear hL hr h1
  go_enter Tryz.func5, Tryz.ntmps5
  go_wp2_with (first
    | (go_at_call 12; refine (read_errt _ ((Below.heap_alloc _ _ _ (Array.getElem?_eq_some_iff.1 HF3.out).1).trans HF3.out) h0.out).mono ?_; rintro e w4 ⟨rfl, hB4⟩; have ct : w4.cell? ⟨w3.heap.size, 0, none⟩ = some (.slice none 0 0) := cell_keep hB4 (by simp) ((Lib.cell_of_heap (Go.heap_alloc_new w3 _) 0).trans rfl); have hz4 : w3.heap.size < w4.heap.size := (by have := hB4.size; simp at this; omega); have HB4 := Lib.hid ((HB3.out.alloc HB3.out.size _).trans (hB4.mono (by have := HB3.out.size; simp; omega))); clear hB4)
    | (go_at_call 10; refine (PC.out _ (HL.out.below HB2.out)).mono ?_; rintro e w3 ⟨hB3, b, rfl, hb1, hb2⟩; have HF3 := Lib.hid hb2; have HB3 := Lib.hid (HB2.out.trans (hB3.mono HB2.out.size)); clear hB3 hb1 hb2)
    | (go_at_call 17; refine (reads_any _ HL.out).mono ?_; rintro e w2 ⟨rfl, hB2⟩; have HB2 := Lib.hid hB2; clear hB2))
  go_ret
  exact ⟨rfl, HB4.out.alloc HB4.out.size _⟩
end
theorem text_valid2 {l0 : List P.Pt} (hv : P.validSpec l0 = none) {n : Nat} (hn : (P.txt l0 ((l0.length - 1 : Nat) : Int)).length ≤ n) : (4096 < n ∧ H.textSpec l0 = ([], some (131, -1))) ∨ ∃ t, P.txt l0 ((l0.length - 1 : Nat) : Int) = t ∧ t.length ≤ 4096 ∧ t.length ≤ n ∧ H.textSpec l0 = (t, none) := by
  by_cases hl : 4096 < (P.txt l0 ((l0.length - 1 : Nat) : Int)).length
  · exact .inl ⟨by omega, by simp [H.textSpec, hv, hl]⟩
  · exact .inr ⟨_, rfl, by omega, hn, by simp [H.textSpec, hv, hl]⟩
set_option maxHeartbeats 8000000 in
set_option maxRecDepth 100000 in
theorem topReads_ok (s : ByteArray) (w : World) (hs : s.size ≤ 140737488355328) (hL : LW w) (ps : List PD) (offs : List Nat) (hp : parseL s.data.toList = .ok (ps, offs)) (hlo : ps.length = offs.length) (hof : ∀ i (h : i < offs.length), offs[i] < s.size) :
    Calls Tryz.prog 5 #[.string s] w fun e w' => e = .returned (.bool true) ∧ Below w.heap.size w w' := by
  have HL := Lib.hid hL
  have PC := Lib.hid (fun w hL => parse_c s w (by omega) hL)
  rw [hp] at PC
  have hsrc := src0 hp
  have h4 := text_four hp
  have hsz : s.data.toList.length = s.size := by simp
  rw [hsz] at h4
  obtain ⟨l0, hl0⟩ : ∃ l0, l0 = ps.map ofPD := ⟨_, rfl⟩
  rw [← hl0] at hsrc h4
  have hpos := (parse_valid hp).2.1
  have HS := Lib.hid hsrc
  have hv := hsrc.valid
  have SV := Lib.hid (fun A' c' => H.show_valid A' c' l0)
  have ST := Lib.hid (fun A' c' => H.show_text A' c' l0)
  have TV := Lib.hid (text_valid2 hv h4)
  have VR := Lib.hid (valid_reads hv)
  have few := hsrc.few
  have HO := Lib.hid hof
  have hol : offs.length = l0.length := by rw [← hlo, hsrc.len]
  have hlp : 0 < l0.length := by rw [← hsrc.len]; exact hpos
  rw [hv] at SV
  clear hL hp hl0 hsrc hv h4 hof hsz hpos hlo
  go_enter Tryz.func5, Tryz.ntmps5
  go_wp2_with fail
  refine (reads_any _ HL.out).mono ?_
  rintro e w1 ⟨rfl, hB⟩
  have B1 := Lib.hid hB
  clear hB
  go_wp2_with fail
  refine (PC.out _ (HL.out.below B1.out)).mono ?_
  rintro e w2 ⟨hB, vp, vo, kv, rfl, hT⟩
  obtain ⟨A, rfl, hM⟩ := made_of hT HS.out (HL.out.below (B1.out.trans (hB.mono B1.out.size)))
  obtain ⟨go, rfl, hg4, hg5, hoc⟩ := hT.offs.form (by omega)
  have HOC := Lib.hid hoc
  rw [hol]
  have B2 := Lib.hid (B1.out.trans (hB.mono B1.out.size))
  have M2 := Lib.hid (hM.below ((Below.refl _ _).alloc (Nat.le_refl _) (.cells #[.slice A l0.length l0.length] 25)))
  have B2a := Lib.hid (B2.out.alloc B2.out.size (.cells #[.slice A l0.length l0.length] 25))
  clear hB hT hM hoc hg4
  have hnz : ((l0.length : Int) == 0) = false := by rw [beq_eq_false_iff_ne]; omega
  go_wp2_with fail
  refine (SV.out _ _ _ M2.out.law.reads M2.out.law.cap).mono ?_
  rintro e w3 ⟨v, rfl, hE, hB⟩
  obtain rfl := hE
  have M3 := Lib.hid (M2.out.below hB)
  have B3 := Lib.hid (B2a.out.trans (hB.mono B2a.out.size))
  have hc3 : w3.cell? ⟨w2.heap.size, 0, none⟩ = some (.slice A l0.length l0.length) := pw_cell_below hB (by simp)
  have HB23 := Lib.hid (((Below.refl _ w2).alloc (Nat.le_refl _) (.cells #[.slice A l0.length l0.length] 25)).trans (hB.mono (by simp)))
  have hg6 : go < w3.heap.size := by have := HB23.out.size; omega
  clear hB
  go_wp2
  go_loopw [7] (fun v wr => ∃ k : Nat, k ≤ l0.length ∧ v = .int .i64 k ∧ Hid (Below w3.heap.size w3 wr)) (fun v _ => l0.length - (intOf v).toNat)
  case atStart => exact ⟨0, by omega, rfl, Lib.hid (Below.refl _ _)⟩
  case round =>
    obtain ⟨k, hk, rfl, HW⟩ := hrel
    by_cases hlt : k < l0.length
    · have hI : (k : Int) < (l0.length : Int) := by omega
      have hko : k < offs.length := by omega
      have d4 : wr.cell? ⟨go, k, none⟩ = some (.int .i64 (offs[k] : Nat)) := cell_keep (HB23.out.trans (HW.out.mono HB23.out.size)) hg5 (by rw [HOC.out k (by omega), List.getElem?_map, List.getElem?_eq_getElem hko]; rfl)
      have hi2 := HO.out k hko
      generalize offs[k] = o at d4 hi2
      have hi3 : ¬ ((o : Int) < 0) := by omega
      have hi4 : ¬ ((o : Int) ≥ (s.size : Int)) := by omega
      have hgr : go < wr.heap.size := Nat.lt_of_lt_of_le hg6 HW.out.size
      clear hko
      go_wp2
      go_roundw
      all_goals first | exact ⟨k + 1, by omega, by go_num, HW⟩ | (simp [intOf]; omega)
    · have hI : ¬ (k : Int) < (l0.length : Int) := by omega
      have cr : wr.cell? ⟨w2.heap.size, 0, none⟩ = some (.slice A l0.length l0.length) := cell_keep HW.out (World.block_lt_of_cell? _ _ hc3) hc3
      have M7 := Lib.hid (M3.out.below HW.out)
      have B7 := Lib.hid (B3.out.trans (HW.out.mono B3.out.size))
      clear hc3
      go_wp2_with fail
      refine (ST.out _ _ _ M7.out.law.tree M7.out.law.cap M7.out.law.tab M7.out.law.big).mono ?_
      rcases TV.out with ⟨h4, hts⟩ | ⟨t, ht, hlen, h4, hts⟩
      · rw [hts]
        rintro e w8 ⟨v, rfl, hE, hB⟩
        obtain ⟨b, rfl, hrest⟩ := hE
        have E8 := Lib.hid hrest
        have B8 := Lib.hid (B7.out.trans (hB.mono B7.out.size))
        have h5 : (4096 : Int) < 4 * (s.size : Int) := by omega
        have hfc := fault_code 131 (-1)
        clear hB hrest
        go_wp2_with (go_at_call 12; refine (show Calls Tryz.prog 12 #[.iface 64 (.pointer (some ⟨b, 0, none⟩))] w8 (fun e w' => e = .returned (.agg (H.fcells 131 (-1) ⟨#[]⟩)) ∧ Below w8.heap.size w8 w') from H.read_any _ (some (131, -1)) w8 ⟨b, rfl, E8.out⟩).mono ?_; rintro e w9 ⟨rfl, hB⟩; have B9 := Lib.hid (B8.out.trans (hB.mono B8.out.size)); clear hB)
        go_ret
        exact ⟨rfl, B9.out⟩
      · have hvr : ∃ offs, parseL t = .ok (ps, offs) := by
          have := VR.out (by rw [ht]; exact hlen)
          rw [ht, HS.out.back] at this
          exact this
        obtain ⟨offs2, hvr⟩ := hvr
        have HVR := Lib.hid hvr
        have HTS := Lib.hid hts
        have hsz : (⟨t.toArray⟩ : ByteArray).size = t.length := rfl
        have h5 : ¬ ((t.length : Int) > 4 * (s.size : Int)) := by omega
        rw [hts]
        clear hvr hts ht
        rintro e w8 ⟨v, rfl, hE, hB⟩
        obtain rfl := hE
        have M8 := Lib.hid (M7.out.below hB)
        have B8 := Lib.hid (B7.out.trans (hB.mono B7.out.size))
        have hc8 : w8.cell? ⟨w2.heap.size, 0, none⟩ = some (.slice A l0.length l0.length) := pw_cell_below hB cr
        clear hB cr
        go_wp2_with fail
        refine (parse_c ⟨t.toArray⟩ w8 (by rw [hsz]; omega) M8.out.lw).mono ?_
        rw [show (⟨t.toArray⟩ : ByteArray).data.toList = t from rfl, HVR.out]
        rintro e w9 ⟨hB, vp, vo2, kv2, rfl, hT⟩
        obtain ⟨A9, rfl, hM⟩ := made_of hT HS.out (M8.out.lw.below hB)
        have B9 := Lib.hid (B8.out.trans (hB.mono B8.out.size))
        have B9a := Lib.hid (B9.out.alloc B9.out.size (.cells #[.slice A9 l0.length l0.length] 25))
        have M9 := Lib.hid (hM.below ((Below.refl _ _).alloc (Nat.le_refl _) (.cells #[.slice A9 l0.length l0.length] 25)))
        have N9 := Lib.hid ((M8.out.below hB).below ((Below.refl _ _).alloc (Nat.le_refl _) (.cells #[.slice A9 l0.length l0.length] 25)))
        have hlt9 : w2.heap.size < w9.heap.size := by have h1 := hB.size; have h2 := World.block_lt_of_cell? _ _ hc8; simp at h2; omega
        have hc9 : w9.cell? ⟨w2.heap.size, 0, none⟩ = some (.slice A l0.length l0.length) := pw_cell_below hB hc8
        clear hB hT hM hc8
        go_wp2_with fail
        refine (sameK_any (l := l0) (by omega) M9.out.law.reads N9.out.law.reads HS.out.kids).mono ?_
        rintro e w10 ⟨rfl, hB⟩
        have M10 := Lib.hid (M9.out.below hB)
        have B10 := Lib.hid (B9a.out.trans (hB.mono B9a.out.size))
        have hc10 : w10.cell? ⟨w9.heap.size, 0, none⟩ = some (.slice A9 l0.length l0.length) := pw_cell_below hB (by simp)
        clear hB
        go_wp2_with fail
        refine (ST.out _ _ _ M10.out.law.tree M10.out.law.cap M10.out.law.tab M10.out.law.big).mono ?_
        rw [HTS.out]
        rintro e w11 ⟨v, rfl, hE, hB⟩
        obtain rfl := hE
        have B11 := Lib.hid (B10.out.trans (hB.mono B10.out.size))
        clear hB
        go_wp2
        go_ret
        exact ⟨rfl, B11.out⟩
theorem topReads_any (s : ByteArray) (w : World) (hs : s.size ≤ 140737488355328) (hL : LW w) :
    Calls Tryz.prog 5 #[.string s] w fun e w' => e = .returned (.bool true) ∧ Below w.heap.size w w' := by
  rcases either_cases s.data.toList with ⟨ps, offs, h1, h2, h3, ⟨r0, h4⟩, h5⟩ | ⟨f, h1, h2, h3⟩
  · refine topReads_ok s w hs hL ps offs h1 h2 (fun i hi => ?_)
    obtain ⟨hl, _⟩ := h5 _ (zip_att (by omega) hi)
    have h6 : s.data.toList.length = s.size := by simp
    simp only at hl
    omega
  · exact topReads_err s w hs hL f h1 h2 (by omega)

end Go.Proofs.YtghhnnbbjlipcaaGreatDoor.X
