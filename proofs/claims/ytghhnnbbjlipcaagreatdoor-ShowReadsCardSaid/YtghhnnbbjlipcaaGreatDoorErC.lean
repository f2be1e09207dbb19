/-
  The walk of ShowReads.
-/
import Derived.Test.YtghhnnbbjlipcaaGreatDoorErB
set_option linter.unusedVariables false
set_option linter.unusedSimpArgs false
namespace Go.Proofs.YtghhnnbbjlipcaaGreatDoor.X
open Go.RowKit Go.Proofs.YtghhnnbbjlipcaaGreatDoorW.PrintWords Go.Proofs.YtghhnnbbjlipcaaGreatDoorW.PrintLast
set_option maxHeartbeats 8000000 in
set_option maxRecDepth 100000 in
theorem reads_bad (A0 : Option Addr) (c0 : Nat) (l0 : List P.Pt) (A1 : Option Addr) (c1 : Nat) (l1 : List P.Pt) (w : World) (h : TwoT w A0 c0 l0 A1 c1 l1) (c a : Int) (hv : P.validSpec l0 = some (c, a)) :
    Calls Tryz.prog 8 #[.agg #[.slice A0 l0.length c0], .agg #[.slice A1 l1.length c1]] w fun e w' => e = .returned (.bool true) ∧ Below w.heap.size w w' := by
  obtain ⟨hcc, ha0, ha1⟩ := validSpec_at hv
  have AW := Lib.hid H.awake_true
  have CC := Lib.hid (fun A' c' => H.copy_c A' c' l0)
  have SV := Lib.hid (fun A' c' => H.show_valid A' c' l0)
  have HTS : Hid (H.textSpec l0 = ([], some (c, a))) := Lib.hid (by simp [H.textSpec, hv])
  have ST := Lib.hid (fun A' c' => H.show_text A' c' l0)
  have EA := Lib.hid (fun b w hL hb d0 d1 d2 d3 => error_any c a b w hL (by omega) (by omega) (by omega) (by omega) (itoa_few c (by omega) (by omega)) (itoa_few a (by omega) (by omega)) hb d0 d1 d2 d3)
  rw [hv] at SV
  have HL := Lib.hid h
  have HW := Lib.hid (((Below.refl w.heap.size w).alloc (Nat.le_refl _) (.cells #[.slice A0 l0.length c0] 25)).alloc (by simp) (.cells #[.slice A1 l1.length c1] 25))
  obtain ⟨k0, k1⟩ := two_cells w (.slice A0 l0.length c0) (.slice A1 l1.length c1) 25
  have K0 := Lib.hid k0
  have K1 := Lib.hid k1
  clear h hv hcc ha0 ha1 k0 k1
  go_enter Tryz.func8, Tryz.ntmps8
  go_wp2_with fail
  refine (AW.out _ (HL.out.below HW.out).lw.tab (tab_big (HL.out.below HW.out).lw)).mono ?_
  rintro e w1 ⟨rfl, hB⟩
  have M1 := Lib.hid ((HL.out.below HW.out).below hB)
  have B1 := Lib.hid (HW.out.trans (hB.mono HW.out.size))
  have hc1 : w1.cell? ⟨w.heap.size, 0, none⟩ = some (.slice A0 l0.length c0) := pw_cell_below hB K0.out
  have hd1 : w1.cell? ⟨w.heap.size + 1, 0, none⟩ = some (.slice A1 l1.length c1) := pw_cell_below hB K1.out
  clear hB
  go_wp2_with fail
  refine (CC.out _ _ _ M1.out.t).mono ?_
  rintro e w2 ⟨A2', c2', rfl, hLL, hB⟩
  have L2 := Lib.hid hLL
  have M2 := Lib.hid (M1.out.below hB)
  have B2 := Lib.hid (B1.out.trans (hB.mono B1.out.size))
  have hc2 : w2.cell? ⟨w.heap.size, 0, none⟩ = some (.slice A0 l0.length c0) := pw_cell_below hB hc1
  have hd2 : w2.cell? ⟨w.heap.size + 1, 0, none⟩ = some (.slice A1 l1.length c1) := pw_cell_below hB hd1
  clear hB hLL hc1 hd1
  go_wp2_with fail
  refine (SV.out _ _ _ L2.out.reads L2.out.cap).mono ?_
  rintro e w3 ⟨v, rfl, hE, hB⟩
  have E3 := Lib.hid hE
  obtain ⟨b3, rfl, _⟩ := hE
  have M3 := Lib.hid (M2.out.below hB)
  have B3 := Lib.hid (B2.out.trans (hB.mono B2.out.size))
  have hc3 : w3.cell? ⟨w.heap.size, 0, none⟩ = some (.slice A0 l0.length c0) := pw_cell_below hB hc2
  have hd3 : w3.cell? ⟨w.heap.size + 1, 0, none⟩ = some (.slice A1 l1.length c1) := pw_cell_below hB hd2
  clear hB hc2 hd2
  go_wp2_with fail
  refine (CC.out _ _ _ M3.out.t).mono ?_
  rintro e w4 ⟨A4', c4', rfl, hLL, hB⟩
  have FB4 := Lib.hid hB
  have L4 := Lib.hid hLL
  have M4 := Lib.hid (M3.out.below hB)
  have B4 := Lib.hid (B3.out.trans (hB.mono B3.out.size))
  have hc4 : w4.cell? ⟨w.heap.size, 0, none⟩ = some (.slice A0 l0.length c0) := pw_cell_below hB hc3
  have hd4 : w4.cell? ⟨w.heap.size + 1, 0, none⟩ = some (.slice A1 l1.length c1) := pw_cell_below hB hd3
  clear hB hLL hc3 hd3
  go_wp2_with fail
  refine (ST.out _ _ _ L4.out.tree L4.out.cap L4.out.tab L4.out.big).mono ?_
  rw [HTS.out]
  rintro e w5 ⟨v, rfl, hE, hB⟩
  have E5 := Lib.hid hE
  obtain ⟨b5, rfl, _⟩ := hE
  have M5 := Lib.hid (M4.out.below hB)
  have B5 := Lib.hid (B4.out.trans (hB.mono B4.out.size))
  have hc5 : w5.cell? ⟨w.heap.size, 0, none⟩ = some (.slice A0 l0.length c0) := pw_cell_below hB hc4
  have hd5 : w5.cell? ⟨w.heap.size + 1, 0, none⟩ = some (.slice A1 l1.length c1) := pw_cell_below hB hd4
  have F5 := Lib.hid (E3.out.below (FB4.out.trans (hB.mono FB4.out.size)))
  clear hB hc4 hd4
  go_wp2_with fail
  obtain ⟨b, hb, hb1, q0, q1, q2, q3, _⟩ := E5.out
  obtain ⟨b', hb', hb1', q0', q1', q2', q3', _⟩ := F5.out
  cases hb
  cases hb'
  refine (EA.out _ _ M5.out.lw hb1 q0 q1 q2 q3).mono ?_
  rintro e w6 ⟨rfl, hB⟩
  have r0 := pw_cell_below hB q0'
  have r1 := pw_cell_below hB q1'
  have r2 := pw_cell_below hB q2'
  have r3 := pw_cell_below hB q3'
  have hb6 : b3 < w6.heap.size := Nat.lt_of_lt_of_le hb1' hB.size
  have Z6 := Lib.hid (And.intro hb6 (And.intro r0 (And.intro r1 (And.intro r2 r3))))
  have M6 := Lib.hid (M5.out.below hB)
  have B6 := Lib.hid (B5.out.trans (hB.mono B5.out.size))
  have hc6 : w6.cell? ⟨w.heap.size, 0, none⟩ = some (.slice A0 l0.length c0) := pw_cell_below hB hc5
  have hd6 : w6.cell? ⟨w.heap.size + 1, 0, none⟩ = some (.slice A1 l1.length c1) := pw_cell_below hB hd5
  clear hB hc5 hd5 q0 q1 q2 q3 q0' q1' q2' q3' r0 r1 r2 r3 hb1 hb1' hb6
  go_wp2_with fail
  refine (EA.out _ _ M6.out.lw Z6.out.1 Z6.out.2.1 Z6.out.2.2.1 Z6.out.2.2.2.1 Z6.out.2.2.2.2).mono ?_
  rintro e w7 ⟨rfl, hB⟩
  have B7 := Lib.hid (B6.out.trans (hB.mono B6.out.size))
  clear hB
  go_wp2
  go_ret
  exact ⟨rfl, B7.out⟩
set_option maxHeartbeats 8000000 in
set_option maxRecDepth 100000 in
theorem reads_good (A0 : Option Addr) (c0 : Nat) (l0 : List P.Pt) (A1 : Option Addr) (c1 : Nat) (l1 : List P.Pt) (w : World) (h : TwoT w A0 c0 l0 A1 c1 l1) (hv : P.validSpec l0 = none) :
    Calls Tryz.prog 8 #[.agg #[.slice A0 l0.length c0], .agg #[.slice A1 l1.length c1]] w fun e w' => e = .returned (.bool true) ∧ Below w.heap.size w w' := by
  have AW := Lib.hid H.awake_true
  have CC := Lib.hid (fun A' c' => H.copy_c A' c' l0)
  have CU := Lib.hid (fun A' c' => H.copy_c A' c' l1)
  have SV := Lib.hid (fun A' c' => H.show_valid A' c' l0)
  have ST := Lib.hid (fun A' c' => H.show_text A' c' l0)
  have SU := Lib.hid (fun A' c' => H.show_text A' c' l1)
  have TV := Lib.hid (text_valid hv)
  have TS := Lib.hid (fun t => src_of_valid (t := t) hv)
  have TO := Lib.hid (fun t => other_text (l1 := l1) (t := t) hv)
  have few := (P.formSpec_shape l0 (valid_parts hv).1).few
  have pos := (P.formSpec_shape l0 (valid_parts hv).1).pos
  rw [hv] at SV
  have HL := Lib.hid h
  have HW := Lib.hid (((Below.refl w.heap.size w).alloc (Nat.le_refl _) (.cells #[.slice A0 l0.length c0] 25)).alloc (by simp) (.cells #[.slice A1 l1.length c1] 25))
  obtain ⟨k0, k1⟩ := two_cells w (.slice A0 l0.length c0) (.slice A1 l1.length c1) 25
  have K0 := Lib.hid k0
  have K1 := Lib.hid k1
  clear h hv k0 k1
  go_enter Tryz.func8, Tryz.ntmps8
  go_wp2_with fail
  refine (AW.out _ (HL.out.below HW.out).lw.tab (tab_big (HL.out.below HW.out).lw)).mono ?_
  rintro e w1 ⟨rfl, hB⟩
  have M1 := Lib.hid ((HL.out.below HW.out).below hB)
  have B1 := Lib.hid (HW.out.trans (hB.mono HW.out.size))
  have hc1 : w1.cell? ⟨w.heap.size, 0, none⟩ = some (.slice A0 l0.length c0) := pw_cell_below hB K0.out
  have hd1 : w1.cell? ⟨w.heap.size + 1, 0, none⟩ = some (.slice A1 l1.length c1) := pw_cell_below hB K1.out
  clear hB
  go_wp2_with fail
  refine (CC.out _ _ _ M1.out.t).mono ?_
  rintro e w2 ⟨A2', c2', rfl, hLL, hB⟩
  have L2 := Lib.hid hLL
  have M2 := Lib.hid (M1.out.below hB)
  have B2 := Lib.hid (B1.out.trans (hB.mono B1.out.size))
  have hc2 : w2.cell? ⟨w.heap.size, 0, none⟩ = some (.slice A0 l0.length c0) := pw_cell_below hB hc1
  have hd2 : w2.cell? ⟨w.heap.size + 1, 0, none⟩ = some (.slice A1 l1.length c1) := pw_cell_below hB hd1
  clear hB hLL hc1 hd1
  go_wp2_with fail
  refine (SV.out _ _ _ L2.out.reads L2.out.cap).mono ?_
  rintro e w3 ⟨v, rfl, hE, hB⟩
  obtain rfl := hE
  have M3 := Lib.hid (M2.out.below hB)
  have B3 := Lib.hid (B2.out.trans (hB.mono B2.out.size))
  have hc3 : w3.cell? ⟨w.heap.size, 0, none⟩ = some (.slice A0 l0.length c0) := pw_cell_below hB hc2
  have hd3 : w3.cell? ⟨w.heap.size + 1, 0, none⟩ = some (.slice A1 l1.length c1) := pw_cell_below hB hd2
  clear hB hc2 hd2
  go_wp2_with fail
  refine (CC.out _ _ _ M3.out.t).mono ?_
  rintro e w4 ⟨A4', c4', rfl, hLL, hB⟩
  have L4 := Lib.hid hLL
  have M4 := Lib.hid (M3.out.below hB)
  have B4 := Lib.hid (B3.out.trans (hB.mono B3.out.size))
  have hc4 : w4.cell? ⟨w.heap.size, 0, none⟩ = some (.slice A0 l0.length c0) := pw_cell_below hB hc3
  have hd4 : w4.cell? ⟨w.heap.size + 1, 0, none⟩ = some (.slice A1 l1.length c1) := pw_cell_below hB hd3
  clear hB hLL hc3 hd3
  go_wp2_with fail
  refine (ST.out _ _ _ L4.out.tree L4.out.cap L4.out.tab L4.out.big).mono ?_
  rcases TV.out with hts | ⟨t, ht, hlen, hts⟩
  · rw [hts]
    rintro e w5 ⟨v, rfl, hE, hB⟩
    have E5 := Lib.hid hE
    obtain ⟨b5, rfl, _⟩ := hE
    have B5 := Lib.hid (B4.out.trans (hB.mono B4.out.size))
    clear hB
    go_wp2_with fail
    refine (H.refusal_any _ (some (131, -1)) 131 (-1) _ E5.out true rfl).mono ?_
    rintro e w6 ⟨rfl, hB⟩
    have B6 := Lib.hid (B5.out.trans (hB.mono B5.out.size))
    clear hB
    go_wp2
    go_ret
    exact ⟨rfl, B6.out⟩
  · obtain ⟨offs, hpr, hol, hsrc⟩ := TS.out t ht hlen
    have HPR := Lib.hid hpr
    have HS := Lib.hid hsrc
    have HTS := Lib.hid hts
    have OT := Lib.hid (TO.out t ht hlen)
    have hne : ¬ t = [] := fun e => nothing_reads _ (by rw [← e]; exact hpr)
    have hsz : (⟨t.toArray⟩ : ByteArray).size = t.length := rfl
    have h4 : ¬ ((t.length : Int) > 4096) := by omega
    have h5 : (t.length : Int) ≤ 4096 := by omega
    have hne2 : t.isEmpty = false := by cases t with
      | nil => exact absurd rfl hne
      | cons _ _ => rfl
    rw [hts]
    clear hpr hsrc hts ht
    rintro e w5 ⟨v, rfl, hE, hB⟩
    obtain rfl := hE
    have M5 := Lib.hid (M4.out.below hB)
    have B5 := Lib.hid (B4.out.trans (hB.mono B4.out.size))
    have hc5 : w5.cell? ⟨w.heap.size, 0, none⟩ = some (.slice A0 l0.length c0) := pw_cell_below hB hc4
    have hd5 : w5.cell? ⟨w.heap.size + 1, 0, none⟩ = some (.slice A1 l1.length c1) := pw_cell_below hB hd4
    clear hB hc4 hd4
    go_wp2_with fail
    refine (parse_c ⟨t.toArray⟩ w5 (by rw [hsz]; omega) M5.out.lw).mono ?_
    rw [show (⟨t.toArray⟩ : ByteArray).data.toList = t from rfl, HPR.out]
    rintro e w6 ⟨hB, vp, vo, kv, rfl, hT⟩
    obtain ⟨A6, rfl, hM⟩ := made_of hT HS.out (M5.out.lw.below hB)
    obtain ⟨go, rfl, hg4, hg5, hoc⟩ := hT.offs.form (by omega)
    rw [hol]
    have G6 := Lib.hid (hM.below ((Below.refl _ _).alloc (Nat.le_refl _) (.cells #[.slice A6 l0.length l0.length] 25)))
    have T6 := Lib.hid ((M5.out.below hB).below ((Below.refl _ _).alloc (Nat.le_refl _) (.cells #[.slice A6 l0.length l0.length] 25)))
    have B6 := Lib.hid ((B5.out.trans (hB.mono B5.out.size)).alloc (Nat.le_trans B5.out.size hB.size) (.cells #[.slice A6 l0.length l0.length] 25))
    have hc6 : w6.cell? ⟨w.heap.size, 0, none⟩ = some (.slice A0 l0.length c0) := pw_cell_below hB hc5
    have hd6 : w6.cell? ⟨w.heap.size + 1, 0, none⟩ = some (.slice A1 l1.length c1) := pw_cell_below hB hd5
    have hz0 : w.heap.size < w6.heap.size := World.block_lt_of_cell? _ _ hc6
    have hz1 : w.heap.size + 1 < w6.heap.size := World.block_lt_of_cell? _ _ hd6
    clear hB hT hM hoc hg4 hg5 hc5 hd5
    go_wp2_with fail
    refine (sameG_any (l1 := l0) (l2 := l0) (by omega) (by omega) G6.out.law.reads T6.out.t.reads HS.out.kids HS.out.kids).mono ?_
    rintro e w7 ⟨r, rfl, hr, hB⟩
    obtain rfl : r = true := hr.2 rfl
    have M7 := Lib.hid (T6.out.below hB)
    have B7 := Lib.hid (B6.out.trans (hB.mono B6.out.size))
    have hc7 : w7.cell? ⟨w.heap.size, 0, none⟩ = some (.slice A0 l0.length c0) := pw_cell_below hB (pw_cell_below ((Below.refl _ _).alloc (Nat.le_refl _) _) hc6)
    have hd7 : w7.cell? ⟨w.heap.size + 1, 0, none⟩ = some (.slice A1 l1.length c1) := pw_cell_below hB (pw_cell_below ((Below.refl _ _).alloc (Nat.le_refl _) _) hd6)
    clear hB hc6 hd6 hr
    go_wp2_with fail
    refine (CU.out _ _ _ M7.out.u).mono ?_
    rintro e w8 ⟨A8', c8', rfl, hLL, hB⟩
    have L8 := Lib.hid hLL
    have M8 := Lib.hid (M7.out.below hB)
    have B8 := Lib.hid (B7.out.trans (hB.mono B7.out.size))
    have hc8 : w8.cell? ⟨w.heap.size, 0, none⟩ = some (.slice A0 l0.length c0) := pw_cell_below hB hc7
    have hd8 : w8.cell? ⟨w.heap.size + 1, 0, none⟩ = some (.slice A1 l1.length c1) := pw_cell_below hB hd7
    clear hB hLL hc7 hd7
    go_wp2_with fail
    refine (SU.out _ _ _ L8.out.tree L8.out.cap L8.out.tab L8.out.big).mono ?_
    rcases OT.out with ⟨uc, ua, huts⟩ | ⟨t1, huts, hlen1, heq⟩
    · rw [huts]
      rintro e w9 ⟨v, rfl, hE, hB⟩
      obtain ⟨b9, rfl, _⟩ := hE
      have B9 := Lib.hid (B8.out.trans (hB.mono B8.out.size))
      clear hB
      go_wp2
      go_ret
      exact ⟨rfl, B9.out⟩
    · rw [huts]
      rintro e w9 ⟨v, rfl, hE, hB⟩
      obtain rfl := hE
      have HEQ := Lib.hid heq
      have M9 := Lib.hid (M8.out.below hB)
      have B9 := Lib.hid (B8.out.trans (hB.mono B8.out.size))
      have hc9 : w9.cell? ⟨w.heap.size, 0, none⟩ = some (.slice A0 l0.length c0) := pw_cell_below hB hc8
      have hd9 : w9.cell? ⟨w.heap.size + 1, 0, none⟩ = some (.slice A1 l1.length c1) := pw_cell_below hB hd8
      clear hB hc8 hd8 heq huts
      by_cases htt : t1 = t
      · subst htt
        have hl01 := Lib.hid (HEQ.out.1 rfl)
        go_wp2_with fail
        refine (sameG_any (l1 := l0) (l2 := l1) (by have := M9.out.t.small.1; omega) (by have := M9.out.u.small.1; omega) M9.out.t.reads M9.out.u.reads (small_kids M9.out.t.small) (small_kids M9.out.u.small)).mono ?_
        rintro e w10 ⟨r, rfl, hr, hB⟩
        obtain rfl : r = true := hr.2 hl01.out
        have B10 := Lib.hid (B9.out.trans (hB.mono B9.out.size))
        clear hB hr
        go_wp2
        go_ret
        exact ⟨rfl, B10.out⟩
      · have hl01 : Hid (¬ l0 = l1) := Lib.hid (fun e => htt (HEQ.out.2 e))
        go_wp2_with fail
        refine (sameG_any (l1 := l0) (l2 := l1) (by have := M9.out.t.small.1; omega) (by have := M9.out.u.small.1; omega) M9.out.t.reads M9.out.u.reads (small_kids M9.out.t.small) (small_kids M9.out.u.small)).mono ?_
        rintro e w10 ⟨r, rfl, hr, hB⟩
        obtain rfl : r = false := by cases r with | false => rfl | true => exact absurd (hr.1 rfl) hl01.out
        have B10 := Lib.hid (B9.out.trans (hB.mono B9.out.size))
        clear hB hr
        go_wp2
        go_ret
        exact ⟨by show Ending.returned (.bool (!(t1 == t))) = _; rw [beq_eq_false_iff_ne.2 htt]; rfl, B10.out⟩
theorem showReads_any (A0 : Option Addr) (c0 : Nat) (l0 : List P.Pt) (A1 : Option Addr) (c1 : Nat) (l1 : List P.Pt) (w : World) (h : TwoT w A0 c0 l0 A1 c1 l1) :
    Calls Tryz.prog 8 #[.agg #[.slice A0 l0.length c0], .agg #[.slice A1 l1.length c1]] w fun e w' => e = .returned (.bool true) ∧ Below w.heap.size w w' := by
  cases hv : P.validSpec l0 with
  | some f => obtain ⟨c, a⟩ := f; exact reads_bad A0 c0 l0 A1 c1 l1 w h c a hv
  | none => exact reads_good A0 c0 l0 A1 c1 l1 w h hv

end Go.Proofs.YtghhnnbbjlipcaaGreatDoor.X
