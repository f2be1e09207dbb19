/-
  The walk of the document's SameTree; the walk of ShowSource.
  The walk of ShowSource.
-/
import Derived.Test.YtghhnnbbjlipcaaGreatDoorVdPl
import Derived.Test.YtghhnnbbjlipcaaGreatDoorTopIn
import Derived.Test.YtghhnnbbjlipcaaGreatDoorTextAll
set_option linter.unusedVariables false
set_option linter.unusedSimpArgs false
namespace Go.Proofs.YtghhnnbbjlipcaaGreatDoor.X
open Go.RowKit Go.Proofs.YtghhnnbbjlipcaaGreatDoorW.PrintWords Go.Proofs.YtghhnnbbjlipcaaGreatDoorW.PrintLast
set_option maxHeartbeats 8000000 in
set_option maxRecDepth 100000 in
theorem sameT_any {l : List P.Pt} (hl : l.length ≤ 140737488355328) {A B : Option Addr} {cA cB : Nat} {w : World} (hA : Kd.C P.k45 w A l.length l) (hB : Kd.C P.k45 w B l.length l) (hk : ∀ p ∈ l, p.f3.length ≤ 140737488355328) :
    Calls Tryz.prog 25 #[.agg #[.slice A l.length cA], .agg #[.slice B l.length cB]] w fun e w' => e = .returned (.bool true) ∧ Below w.heap.size w w' := by
  have TR := Lib.hid hA
  have TR2 := Lib.hid hB
  have HK := Lib.hid hk
  clear hA hB hk
  go_enter Tryz.func25, Tryz.ntmps25
  go_wp2
  go_loopw [5] (fun v wr => ∃ k : Nat, k ≤ l.length ∧ v = .int .i64 k ∧ Hid (Below (w.heap.size + 2) ((w.alloc (.cells #[.slice A l.length cA] 25)).alloc (.cells #[.slice B l.length cB] 25)) wr)) (fun v _ => l.length - (intOf v).toNat)
  case atStart => exact ⟨0, by omega, rfl, Lib.hid (Below.refl _ _)⟩
  case round =>
    obtain ⟨k, hk, rfl, HB⟩ := hrel
    have hwr : w.heap.size + 1 < wr.heap.size := by have := HB.out.size; simp at this; omega
    have ct : wr.cell? ⟨w.heap.size, 0, none⟩ = some (.slice A l.length cA) := cell_keep HB.out (by omega) ((Lib.cell_of_heap ((Below.heap_alloc _ _ _ (by simp)).trans (Go.heap_alloc_new w _)) 0).trans rfl)
    have ct2 : wr.cell? ⟨w.heap.size + 1, 0, none⟩ = some (.slice B l.length cB) := cell_keep HB.out (by omega) ((Lib.cell_of_heap (by have h := Go.heap_alloc_new (w.alloc (.cells #[.slice A l.length cA] 25)) (.cells #[.slice B l.length cB] 25); rw [World.size_alloc] at h; exact h) 0).trans rfl)
    have hBw : Below w.heap.size w wr := (((Below.refl _ w).alloc (Nat.le_refl _) _).alloc (by simp) _).trans (HB.out.mono (by omega))
    have hw0 : w.heap.size < wr.heap.size := by omega
    by_cases hlt : k < l.length
    · have hI : (k : Int) < (l.length : Int) := by omega
      obtain ⟨g, a, c, hg1, d0, d1, d2, d3, hl3, hIn⟩ := P.at_T45 (Kd.C_below TR.out hBw) (k : Int) (by omega) (by omega)
      obtain ⟨g2, a2, c2, hg3, e0, e1, e2, e3, hl4, hIn2⟩ := P.at_T45 (Kd.C_below TR2.out hBw) (k : Int) (by omega) (by omega)
      subst hg1 hg3
      have hrd : P.rd_T45 l (k : Int) = l[k] := by simp [P.rd_T45, List.getD_eq_getElem?_getD, List.getElem?_eq_getElem hlt]
      rw [hrd] at d0 d1 d2 d3 hl3 hIn e0 e1 e2 e3 hl4 hIn2
      rw [Int.toNat_natCast] at d0 d1 d2 d3 e0 e1 e2 e3
      have hkl := HK.out _ (List.getElem_mem hlt)
      have KI := Lib.hid hIn
      have KI2 := Lib.hid hIn2
      have HBw := Lib.hid hBw
      clear hIn hIn2 hBw hrd hl3 hl4
      have hbg : (g.add (k * 4)).block < wr.heap.size := World.block_lt_of_cell? _ _ d0
      have hbg2 : (g2.add (k * 4)).block < wr.heap.size := World.block_lt_of_cell? _ _ e0
      generalize l[k] = p at d0 d1 d2 d3 e0 e1 e2 e3 KI KI2 hkl
      obtain ⟨m, hm⟩ : ∃ m, m = p.f3.length := ⟨_, rfl⟩
      have HM := Lib.hid hm
      rw [← hm] at d3 e3 KI KI2 hkl
      clear hm
      go_wp2
      go_region
      · go_wp2
        go_loopw [8] (fun v wq => ∃ j : Nat, j ≤ m ∧ v = .int .i64 j ∧ ∃ nd, ((wr.alloc (.cells #[.int .i64 p.f0, .string p.f1, .int .i64 p.f2, .slice a m c] 45)).alloc (.cells #[.int .i64 p.f0, .string p.f1, .int .i64 p.f2, .slice a2 m c2] 45)).drewN nd = wq) (fun v _ => m - (intOf v).toNat)
        case atStart => exact ⟨0, by omega, rfl, 1, rfl⟩
        case round =>
          obtain ⟨j, hj, rfl, nd, rfl⟩ := hrel
          by_cases hlj : j < m
          · have hI2 : (j : Int) < (m : Int) := by omega
            obtain ⟨gk, hk1, hk3⟩ := int_at KI.out (j := j) (by have := HM.out; omega)
            obtain ⟨gk2, hk4, hk6⟩ := int_at KI2.out (j := j) (by have := HM.out; omega)
            subst hk1 hk4
            have hbk : (gk.add j).block < wr.heap.size := World.block_lt_of_cell? _ _ hk3
            have hbk2 : (gk2.add j).block < wr.heap.size := World.block_lt_of_cell? _ _ hk6
            generalize p.f3[j]'(by have := HM.out; omega) = x at hk3 hk6
            go_wp2
            go_quiet (fail)
            go_wp2
            go_roundw
            case rel => exact ⟨j + 1, by omega, by go_num, _, rfl⟩
            case measure => simp [intOf]; omega
          · have hI2 : ¬ (j : Int) < (m : Int) := by omega
            go_wp2
            go_roundw
            case rel => exact ⟨k + 1, by omega, by go_num, Lib.hid (below_drewN ((HB.out.alloc (by omega) _).alloc (by simp; omega) _) _)⟩
            case measure => simp [intOf]; omega
      · go_wp2
        go_loopw [8] (fun v wq => ∃ j : Nat, j ≤ m ∧ v = .int .i64 j ∧ ∃ nd, ((wr.alloc (.cells #[.int .i64 p.f0, .string p.f1, .int .i64 p.f2, .slice a2 m c2] 45)).alloc (.cells #[.int .i64 p.f0, .string p.f1, .int .i64 p.f2, .slice a m c] 45)).drewN nd = wq) (fun v _ => m - (intOf v).toNat)
        case atStart => exact ⟨0, by omega, rfl, 1, rfl⟩
        case round =>
          obtain ⟨j, hj, rfl, nd, rfl⟩ := hrel
          by_cases hlj : j < m
          · have hI2 : (j : Int) < (m : Int) := by omega
            obtain ⟨gk, hk1, hk3⟩ := int_at KI.out (j := j) (by have := HM.out; omega)
            obtain ⟨gk2, hk4, hk6⟩ := int_at KI2.out (j := j) (by have := HM.out; omega)
            subst hk1 hk4
            have hbk : (gk.add j).block < wr.heap.size := World.block_lt_of_cell? _ _ hk3
            have hbk2 : (gk2.add j).block < wr.heap.size := World.block_lt_of_cell? _ _ hk6
            generalize p.f3[j]'(by have := HM.out; omega) = x at hk3 hk6
            go_wp2
            go_quiet (fail)
            go_wp2
            go_roundw
            case rel => exact ⟨j + 1, by omega, by go_num, _, rfl⟩
            case measure => simp [intOf]; omega
          · have hI2 : ¬ (j : Int) < (m : Int) := by omega
            go_wp2
            go_roundw
            case rel => exact ⟨k + 1, by omega, by go_num, Lib.hid (below_drewN ((HB.out.alloc (by omega) _).alloc (by simp; omega) _) _)⟩
            case measure => simp [intOf]; omega
    · have hI : ¬ (k : Int) < (l.length : Int) := by omega
      go_wp2
      go_ret
      exact ⟨rfl, hBw⟩

end Go.Proofs.YtghhnnbbjlipcaaGreatDoor.X
set_option linter.unusedVariables false
set_option linter.unusedSimpArgs false
namespace Go.Proofs.YtghhnnbbjlipcaaGreatDoor.X
open Go.RowKit Go.Proofs.YtghhnnbbjlipcaaGreatDoorW.PrintWords Go.Proofs.YtghhnnbbjlipcaaGreatDoorW.PrintLast
theorem most_le : ∀ (ns : List Int) (m : Int), m ≤ 32 → (∀ n ∈ ns, n ≤ 32) → m ≤ P.mostGo ns m ∧ P.mostGo ns m ≤ 32
  | [], m, h, _ => ⟨Int.le_refl _, h⟩
  | n :: ns, m, h, hn => by
    simp only [P.mostGo]
    have h1 := hn n List.mem_cons_self
    obtain ⟨h2, h3⟩ := most_le ns (max m n) (by omega) (fun y hy => hn y (List.mem_cons_of_mem _ hy))
    exact ⟨by omega, h3⟩
theorem nest_bounds {l0 : List P.Pt} (h : P.validSpec l0 = none) : 0 ≤ P.nestOf l0 ∧ P.nestOf l0 ≤ 32 := by
  obtain ⟨_, h2⟩ := valid_parts h
  unfold P.nestOf
  rw [h]
  exact most_le _ 0 (by decide) h2
theorem text_valid {l0 : List P.Pt} (hv : P.validSpec l0 = none) : H.textSpec l0 = ([], some (131, -1)) ∨ ∃ t, P.txt l0 ((l0.length - 1 : Nat) : Int) = t ∧ t.length ≤ 4096 ∧ H.textSpec l0 = (t, none) := by
  by_cases hl : 4096 < (P.txt l0 ((l0.length - 1 : Nat) : Int)).length
  · exact .inl (by simp [H.textSpec, hv, hl])
  · exact .inr ⟨_, rfl, by omega, by simp [H.textSpec, hv, hl]⟩
/-- The tree that parse has made, as a law about trees finds it. -/
structure Made (w : World) (A : Option Addr) (l0 : List P.Pt) : Prop where
  law : H.Law w A l0.length l0
  lw : LW w
theorem Made.below {w w' : World} {A : Option Addr} {l0 : List P.Pt} (h : Made w A l0) (k : Below w.heap.size w w') : Made w' A l0 := ⟨h.law.below k, h.lw.below k⟩
/-- What is known of a source's tree. -/
structure Src0 (l0 : List P.Pt) (ps : List PD) : Prop where
  eq : ps.map ofPD = l0
  back : toPDs l0 = ps
  len : ps.length = l0.length
  few : l0.length ≤ 1000
  valid : P.validSpec l0 = none
  small : P.Small l0
  kids : ∀ p ∈ l0, p.f3.length ≤ 140737488355328
  kids' : ∀ p ∈ ps, p.kids.length ≤ 140737488355328
theorem src0 {l : Bs} {ps : List PD} {offs : List Nat} (h : parseL l = .ok (ps, offs)) : Src0 (ps.map ofPD) ps := by
  obtain ⟨hv, hp, h1000, _⟩ := parse_valid h
  have hS := P.formSpec_shape _ (valid_parts hv).1
  have hk : ∀ j, j < (ps.map ofPD).length → (P.rd_T45 (ps.map ofPD) (j : Int)).f3.length ≤ 1000 := fun j hj => by
    have := (hS.parts j hj).few
    have := hS.few
    omega
  have hk' : ∀ p ∈ ps, p.kids.length ≤ 1000 := fun p hp => by
    obtain ⟨j, hj, rfl⟩ := List.mem_iff_getElem.1 hp
    have := hk j (by simpa using hj)
    rw [rd_of hj] at this
    simpa [ofPD, at_, List.getD_eq_getElem?_getD, List.getElem?_eq_getElem hj] using this
  exact ⟨rfl, pds_of ps, by simp, by simpa using h1000, hv, ⟨by simp; omega, fun j hj => by have := hk j hj; omega⟩, fun p hp => by
    obtain ⟨q, hq, rfl⟩ := List.mem_map.1 hp
    have := hk' q hq
    simp [ofPD]; omega, fun p hp => by have := hk' p hp; omega⟩
theorem made_of {w : World} {base : Nat} {vp vo : Value} {kv : List Value} {ps : List PD} {l0 : List P.Pt} {offs : List Nat} (h : TreeAt w base vp vo kv ps offs) (hs : Src0 l0 ps) (hL : LW w) : ∃ A, vp = .slice A l0.length l0.length ∧ Made w A l0 := by
  obtain ⟨A, hv, hF⟩ := tree_F h (by rw [hs.len]; have := hs.few; omega) hs.kids'
  rw [hs.eq] at hF
  rw [hs.len] at hF hv
  exact ⟨A, hv, ⟨hF, Nat.le_refl _, hs.small, hL.tab, tab_big hL⟩, hL⟩
theorem source_err (s : ByteArray) (f : PF) (hp : parseL s.data.toList = .error f) (hs : s.size ≤ 9223372036854775807) (w : World) (hL : LW w) :
    Calls Tryz.prog 7 #[.string s] w fun e w' => e = .returned (.bool true) ∧ Below w.heap.size w w' := by
  have HL := Lib.hid hL
  have AW := Lib.hid H.awake_true
  have PC := Lib.hid (fun w hL => parse_c s w hs hL)
  rw [hp] at PC
  clear hL hp hs
  go_enter Tryz.func7, Tryz.ntmps7
  go_wp2_with fail
  refine (AW.out _ HL.out.tab (tab_big HL.out)).mono ?_
  rintro e w1 ⟨rfl, hB⟩
  have B1 := Lib.hid hB
  clear hB
  go_wp2_with fail
  refine (PC.out _ (HL.out.below B1.out)).mono ?_
  rintro e w2 ⟨hB, b, rfl, hb1, hb2⟩
  have B2 := Lib.hid (B1.out.trans (hB.mono B1.out.size))
  clear hB hb1 hb2
  go_wp2
  go_ret
  exact ⟨rfl, B2.out.alloc B2.out.size _⟩
set_option maxHeartbeats 8000000 in
set_option maxRecDepth 100000 in
theorem source_ok (s : ByteArray) (ps : List PD) (offs : List Nat) (hp : parseL s.data.toList = .ok (ps, offs)) (hs : s.size ≤ 9223372036854775807) (w : World) (hL : LW w) :
    Calls Tryz.prog 7 #[.string s] w fun e w' => e = .returned (.bool true) ∧ Below w.heap.size w w' := by
  have HL := Lib.hid hL
  have AW := Lib.hid H.awake_true
  have PC := Lib.hid (fun w hL => parse_c s w hs hL)
  rw [hp] at PC
  have hsrc := src0 hp
  obtain ⟨l0, hl0⟩ : ∃ l0, l0 = ps.map ofPD := ⟨_, rfl⟩
  rw [← hl0] at hsrc
  have HS := Lib.hid hsrc
  have hv := hsrc.valid
  have CC := Lib.hid (fun A' c' => H.copy_c A' c' l0)
  have SN := Lib.hid (fun A' c' => H.show_nest A' c' l0)
  have SV := Lib.hid (fun A' c' => H.show_valid A' c' l0)
  have ST := Lib.hid (fun A' c' => H.show_text A' c' l0)
  obtain ⟨q0, q1⟩ := nest_bounds hv
  have TV := Lib.hid (text_valid hv)
  have VR := Lib.hid (valid_reads hv)
  have few := hsrc.few
  rw [hv] at SN SV
  generalize P.nestOf l0 = q at *
  clear hL hp hs hl0 hsrc hv
  go_enter Tryz.func7, Tryz.ntmps7
  go_wp2_with fail
  refine (AW.out _ HL.out.tab (tab_big HL.out)).mono ?_
  rintro e w1 ⟨rfl, hB⟩
  have B1 := Lib.hid hB
  clear hB
  go_wp2_with fail
  refine (PC.out _ (HL.out.below B1.out)).mono ?_
  rintro e w2 ⟨hB, vp, vo, kv, rfl, hT⟩
  obtain ⟨A, rfl, hM⟩ := made_of hT HS.out (HL.out.below (B1.out.trans (hB.mono B1.out.size)))
  have B2 := Lib.hid (B1.out.trans (hB.mono B1.out.size))
  have M2 := Lib.hid (hM.below ((Below.refl _ _).alloc (Nat.le_refl _) (.cells #[.slice A l0.length l0.length] 25)))
  have B2a := Lib.hid (B2.out.alloc B2.out.size (.cells #[.slice A l0.length l0.length] 25))
  clear hB hT hM
  go_wp2_with fail
  refine (CC.out _ _ _ M2.out.law).mono ?_
  rintro e w3 ⟨A3, c3, rfl, hL3, hB⟩
  have L3 := Lib.hid hL3
  have M3 := Lib.hid (M2.out.below hB)
  have B3 := Lib.hid (B2a.out.trans (hB.mono B2a.out.size))
  have hc3 : w3.cell? ⟨w2.heap.size, 0, none⟩ = some (.slice A l0.length l0.length) := pw_cell_below hB (by simp)
  clear hB hL3
  go_wp2_with fail
  refine (SN.out _ _ _ L3.out.reads L3.out.cap).mono ?_
  rintro e w4 ⟨v, rfl, hE, hB⟩
  obtain rfl := hE
  have M4 := Lib.hid (M3.out.below hB)
  have B4 := Lib.hid (B3.out.trans (hB.mono B3.out.size))
  have hc4 : w4.cell? ⟨w2.heap.size, 0, none⟩ = some (.slice A l0.length l0.length) := pw_cell_below hB hc3
  clear hB hc3
  go_wp2_with fail
  refine (CC.out _ _ _ M4.out.law).mono ?_
  rintro e w5 ⟨A5, c5, rfl, hL5, hB⟩
  have L5 := Lib.hid hL5
  have M5 := Lib.hid (M4.out.below hB)
  have B5 := Lib.hid (B4.out.trans (hB.mono B4.out.size))
  have hc5 : w5.cell? ⟨w2.heap.size, 0, none⟩ = some (.slice A l0.length l0.length) := pw_cell_below hB hc4
  clear hB hL5 hc4
  go_wp2_with fail
  refine (SV.out _ _ _ L5.out.reads L5.out.cap).mono ?_
  rintro e w6 ⟨v, rfl, hE, hB⟩
  obtain rfl := hE
  have M6 := Lib.hid (M5.out.below hB)
  have B6 := Lib.hid (B5.out.trans (hB.mono B5.out.size))
  have hc6 : w6.cell? ⟨w2.heap.size, 0, none⟩ = some (.slice A l0.length l0.length) := pw_cell_below hB hc5
  clear hB hc5
  go_wp2_with fail
  refine (CC.out _ _ _ M6.out.law).mono ?_
  rintro e w7 ⟨A7, c7, rfl, hL7, hB⟩
  have L7 := Lib.hid hL7
  have M7 := Lib.hid (M6.out.below hB)
  have B7 := Lib.hid (B6.out.trans (hB.mono B6.out.size))
  have hc7 : w7.cell? ⟨w2.heap.size, 0, none⟩ = some (.slice A l0.length l0.length) := pw_cell_below hB hc6
  clear hB hL7 hc6
  go_wp2_with fail
  refine (ST.out _ _ _ L7.out.tree L7.out.cap L7.out.tab L7.out.big).mono ?_
  rcases TV.out with hts | ⟨t, ht, hlen, hts⟩
  · rw [hts]
    rintro e w8 ⟨v, rfl, hE, hB⟩
    have E8 := Lib.hid hE
    obtain ⟨b, rfl, _⟩ := hE
    have B8 := Lib.hid (B7.out.trans (hB.mono B7.out.size))
    clear hB
    go_wp2_with fail
    refine (H.refusal_any _ (some (131, -1)) 131 (-1) _ E8.out true rfl).mono ?_
    rintro e w9 ⟨rfl, hB⟩
    have B9 := Lib.hid (B8.out.trans (hB.mono B8.out.size))
    clear hB
    go_wp2
    go_ret
    exact ⟨rfl, B9.out⟩
  · have hvr : ∃ offs, parseL t = .ok (ps, offs) := by
      have := VR.out (by rw [ht]; exact hlen)
      rw [ht, HS.out.back] at this
      exact this
    obtain ⟨offs2, hvr⟩ := hvr
    have HVR := Lib.hid hvr
    have HTS := Lib.hid hts
    have hsz : (⟨t.toArray⟩ : ByteArray).size = t.length := rfl
    rw [hts]
    clear hvr hts ht
    rintro e w8 ⟨v, rfl, hE, hB⟩
    obtain rfl := hE
    have M8 := Lib.hid (M7.out.below hB)
    have B8 := Lib.hid (B7.out.trans (hB.mono B7.out.size))
    have hc8 : w8.cell? ⟨w2.heap.size, 0, none⟩ = some (.slice A l0.length l0.length) := pw_cell_below hB hc7
    clear hB hc7
    go_wp2_with fail
    refine (parse_c ⟨t.toArray⟩ w8 (by rw [hsz]; omega) M8.out.lw).mono ?_
    rw [show (⟨t.toArray⟩ : ByteArray).data.toList = t from rfl, HVR.out]
    rintro e w9 ⟨hB, vp, vo2, kv2, rfl, hT⟩
    obtain ⟨A9, rfl, hM⟩ := made_of hT HS.out (M8.out.lw.below hB)
    have B9 := Lib.hid (B8.out.trans (hB.mono B8.out.size))
    have B9a := Lib.hid (B9.out.alloc B9.out.size (.cells #[.slice A9 l0.length l0.length] 25))
    have M9 := Lib.hid (hM.below ((Below.refl _ _).alloc (Nat.le_refl _) (.cells #[.slice A9 l0.length l0.length] 25)))
    have N9 := Lib.hid ((M8.out.below hB).below ((Below.refl _ _).alloc (Nat.le_refl _) (.cells #[.slice A9 l0.length l0.length] 25)))
    have hlt9 : w2.heap.size < w9.heap.size := by have h1 := hB.size; have h2 := World.block_lt_of_cell? _ _ hc8; simp at h2; omega
    have hc9 : w9.cell? ⟨w2.heap.size, 0, none⟩ = some (.slice A l0.length l0.length) := pw_cell_below hB hc8
    clear hB hT hM hc8
    go_wp2_with fail
    refine (sameT_any (l := l0) (by omega) M9.out.law.reads N9.out.law.reads HS.out.kids).mono ?_
    rintro e w10 ⟨rfl, hB⟩
    have M10 := Lib.hid (M9.out.below hB)
    have B10 := Lib.hid (B9a.out.trans (hB.mono B9a.out.size))
    have hc10 : w10.cell? ⟨w9.heap.size, 0, none⟩ = some (.slice A9 l0.length l0.length) := pw_cell_below hB (by simp)
    clear hB
    go_wp2_with fail
    refine (ST.out _ _ _ M10.out.law.tree M10.out.law.cap M10.out.law.tab M10.out.law.big).mono ?_
    rw [HTS.out]
    rintro e w11 ⟨v, rfl, hE, hB⟩
    obtain rfl := hE
    have B11 := Lib.hid (B10.out.trans (hB.mono B10.out.size))
    clear hB
    go_wp2
    go_ret
    exact ⟨rfl, B11.out⟩
theorem showSource_any (s : ByteArray) (w : World) (hs : s.size ≤ 140737488355328) (hL : LW w) :
    Calls Tryz.prog 7 #[.string s] w fun e w' => e = .returned (.bool true) ∧ Below w.heap.size w w' := by
  cases h : parseL s.data.toList with
  | error f => exact source_err s f h (by omega) w hL
  | ok q => obtain ⟨ps, offs⟩ := q; exact source_ok s ps offs h (by omega) w hL

end Go.Proofs.YtghhnnbbjlipcaaGreatDoor.X
