/-
  The walk of ParseMemory.
-/
import Derived.Test.YtfiljgkcipnghaaGreatDoorMmAll
set_option linter.unusedVariables false
set_option linter.unusedSimpArgs false
namespace Go.Proofs.YtfiljgkcipnghaaGreatDoor.X
open Go.RowKit
section
attribute [-go_sem] storeCells
attribute [local go_sem] st1x st1y sc2p
set_option maxHeartbeats 8000000 in
set_option maxRecDepth 100000 in
theorem parseMemory_any (s o : ByteArray) (w : World) (hs : s.size ≤ 140737488355328) (ho : o.size ≤ 140737488355328) (hL : LW w) :
    Calls Tryz.prog 6 #[.string s, .string o] w fun e w' => e = .returned (.bool true) ∧ Below w.heap.size w w' := by
  have HL := Lib.hid hL
  have PC := Lib.hid (fun W h => parse_t s W (by omega) h)
  have PO := Lib.hid (fun W h => parse_t o W (by omega) h)
  have RC := Lib.hid (fun W => ref_t s W hs)
  have RO := Lib.hid (fun W => ref_t o W ho)
  obtain ⟨l1, l2, l3⟩ := treeP_len s.data.toList
  obtain ⟨n1, n2, n3⟩ := treeP_len o.data.toList
  generalize treeP s.data.toList = T at PC RC l1 l2 l3
  generalize treeP o.data.toList = T' at PO RO n1 n2 n3
  obtain ⟨ps, os⟩ := T
  obtain ⟨pc, oc⟩ := T'
  dsimp only at PC PO RC RO l1 l2 l3 n1 n2 n3
  have HK := Lib.hid l2
  have HKc := Lib.hid n2
  have HLO := Lib.hid l3
  have HLOc := Lib.hid n3
  clear hL hs ho l2 n2 l3 n3
  go_enter Tryz.func6, Tryz.ntmps6
  go_wp2_with fail
  refine (wakes_any _ HL.out).mono ?_
  rintro e w1 ⟨rfl, hB⟩
  have B1 := Lib.hid hB
  clear hB
  go_wp2_with fail
  refine (PC.out _ (HL.out.below B1.out)).mono ?_
  rintro e w2 ⟨hB, va, oa, ka, ea, rfl, hT⟩
  have J2 := Lib.hid hB
  have TA := Lib.hid hT
  have B2 := Lib.hid (B1.out.trans (hB.mono B1.out.size))
  clear hB hT
  go_wp2_with fail
  refine (PC.out _ (HL.out.below (B2.out.trans ((oneC_below w2 (.slice va ps.length ps.length)).mono B2.out.size)))).mono ?_
  rintro e w3 ⟨hB, vb, ob, kb, eb, rfl, hT⟩
  have J3 := Lib.hid ((oneC_below w2 (.slice va ps.length ps.length)).trans (hB.mono (by simp)))
  have ca3 := Lib.hid (cell_b hB (oneC_cell w2 _))
  have TB := Lib.hid hT
  have B3 := Lib.hid (B2.out.trans (J3.out.mono B2.out.size))
  clear hB hT
  go_wp2_with fail
  refine (PO.out _ (HL.out.below (B3.out.trans ((oneC_below w3 (.slice vb ps.length ps.length)).mono B3.out.size)))).mono ?_
  rintro e w4 ⟨hB, vc, oc', kc, ec, rfl, hT⟩
  have J4 := Lib.hid ((oneC_below w3 (.slice vb ps.length ps.length)).trans (hB.mono (by simp)))
  have cb4 := Lib.hid (cell_b hB (oneC_cell w3 _))
  have TC := Lib.hid hT
  have B4 := Lib.hid (B3.out.trans (J4.out.mono B3.out.size))
  clear hB hT
  go_wp2_with fail
  refine (RC.out _).mono ?_
  rintro e w5 ⟨hB, vw, cw, ow, kw, f1, f2, rfl, hT⟩
  have J5 := Lib.hid ((oneC_below w4 (.slice vc pc.length pc.length)).trans (hB.mono (by simp)))
  have cc5 := Lib.hid (cell_b hB (oneC_cell w4 _))
  have TW := Lib.hid hT
  have B5 := Lib.hid (B4.out.trans (J5.out.mono B4.out.size))
  clear hB hT
  go_wp2_with fail
  refine (RO.out _).mono ?_
  rintro e w6 ⟨hB, vt, ct, ot, kt, f3, f4, rfl, hT⟩
  have J6 := Lib.hid ((twoC_below w5 (.slice vw ps.length cw) f1 f2).trans (hB.mono (by simp; omega)))
  have cw6 := Lib.hid (cell_b hB (twoC_cell w5 _ f1 f2))
  have JZ : Hid (w5.heap.size + 2 ≤ w6.heap.size) := Lib.hid (by have h := hB.size; simpa using h)
  have TT := Lib.hid hT
  have B6 := Lib.hid (B5.out.trans (J6.out.mono B5.out.size))
  clear hB hT
  have SMW : Hid (∃ W, P1 w ⟨w2.heap.size, w3.heap.size, w4.heap.size, w5.heap.size, w6.heap.size, va, vb, vc, vw, vt, cw, ct, oa, ob, oc', ow, ot, ka, kb, kc, kw, kt, w1.heap.size, w2.heap.size + 1, w3.heap.size + 1, w4.heap.size + 1, w5.heap.size + 2⟩ ps pc os oc W 0 (twoC w6 (.slice vt pc.length ct) f3 f4)) :=
    Lib.hid (mem_start B1.out J2.out J3.out J4.out J5.out J6.out TA.out (by have h := TB.out; simpa using h) (by have h := TC.out; simpa using h) (by have h := TW.out; simpa using h) (by have h := TT.out; simpa using h) ca3.out cb4.out cc5.out cw6.out JZ.out)
  generalize hM : (⟨w2.heap.size, w3.heap.size, w4.heap.size, w5.heap.size, w6.heap.size, va, vb, vc, vw, vt, cw, ct, oa, ob, oc', ow, ot, ka, kb, kc, kw, kt, w1.heap.size, w2.heap.size + 1, w3.heap.size + 1, w4.heap.size + 1, w5.heap.size + 2⟩ : Mem) = M at SMW
  have HM := Lib.hid hM.symm
  clear hM
  go_wp2_with fail
  go_loopw [20] (fun v wr => ∃ k : Nat, k ≤ ps.length ∧ v = .int .i64 k ∧ Hid (∃ W, P1 w M ps pc os oc W k wr)) (fun v _ => ps.length - (intOf v).toNat)
  case atStart => exact ⟨0, by omega, rfl, SMW⟩
  case round =>
    obtain ⟨k, hk, rfl, HP⟩ := hrel
    obtain ⟨W, hP⟩ := HP.out
    have ca : wr.cell? ⟨w2.heap.size, 0, none⟩ = some (.slice M.va ps.length ps.length) := by have h := (hP.sr hk).ca; rw [show M.ga = w2.heap.size by rw [HM.out]] at h; exact h
    have P := Lib.hid hP
    by_cases hlt : k < ps.length
    · have hI : (k : Int) < (ps.length : Int) := by omega
      obtain ⟨g, a, c, eva, ck, hkv, hrw⟩ := hP.part hlt
      have hm := HK.out _ (List.getElem_mem hlt)
      rw [eva] at ca
      generalize ps[k].kids.length = m at ck hkv hrw hm
      generalize ps[k].kids.map (fun k => Value.int .i64 (k : Nat)) = xs at hrw
      have HR := Lib.hid hrw
      have hgz := World.block_lt_of_cell? _ _ ck
      have haz := World.block_lt_of_cell? _ _ ca
      clear hP hrw HP eva
      go_wp2_with (go_at_call 19; refine (wipe_int _ m _ _ wr HR.out hm).mono ?_; rintro e w7 ⟨rfl, hkp, _⟩; have N := Lib.hid (P.out.step hkv hkp); clear hkp)
      all_goals
        go_roundw
        case rel => exact ⟨k + 1, by omega, by go_num, Lib.hid ⟨_, N.out⟩⟩
        case measure => simp [intOf]; omega
    · obtain rfl : k = ps.length := by omega
      have hI : ¬ (ps.length : Int) < (ps.length : Int) := by omega
      have S := Lib.hid (hP.sr hk)
      obtain ⟨xa, ya, ra1, ra2, ra3, ra4⟩ := hP.fin l1 HLO.out
      have RA := Lib.hid ra1
      have RO2 := Lib.hid ra2
      have XP := Lib.hid ra3
      have XO := Lib.hid ra4
      clear hP HP P ra1 ra2 ra3 ra4
      obtain ⟨wA, rfl⟩ : ∃ x, x = wr := ⟨_, rfl⟩
      go_wp2_with fail
      go_loopw [21] (fun v wq => ∃ i : Nat, i ≤ pc.length ∧ v = .int .i64 i ∧ Hid (Below wA.heap.size wA wq)) (fun v _ => pc.length - (intOf v).toNat)
      case atStart => exact ⟨0, by omega, rfl, Lib.hid (Below.refl _ _)⟩
      case round =>
        obtain ⟨i, hi, rfl, HB⟩ := hrel
        have SB := Lib.hid (S.out.below HB.out)
        have cc : wr.cell? ⟨w4.heap.size, 0, none⟩ = some (.slice M.vc pc.length pc.length) := by have h := SB.out.cc; rw [show M.gc = w4.heap.size by rw [HM.out]] at h; exact h
        have ct' : wr.cell? ⟨w6.heap.size, 0, none⟩ = some (.slice M.vt pc.length M.ct) := by have h := SB.out.ct; rw [show M.gt = w6.heap.size by rw [HM.out]] at h; exact h
        have hcz := World.block_lt_of_cell? _ _ cc
        have htz := World.block_lt_of_cell? _ _ ct'
        by_cases hlt : i < pc.length
        · have hI : (i : Int) < (pc.length : Int) := by omega
          go_wp2_with fail
          clear cc ct' hcz htz
          go_loopw [22] (fun v wq => ∃ j : Nat, j ≤ pc[i].kids.length ∧ v = .int .i64 j ∧ Hid (Below wA.heap.size wA wq)) (fun v _ => pc[i].kids.length - (intOf v).toNat)
          case atStart => exact ⟨0, by omega, rfl, HB⟩
          case round =>
            clear HB SB
            obtain ⟨j, hj, rfl, HB⟩ := hrel
            have hSB := S.out.below HB.out
            have cc : wr.cell? ⟨w4.heap.size, 0, none⟩ = some (.slice M.vc pc.length pc.length) := by have h := hSB.cc; rw [show M.gc = w4.heap.size by rw [HM.out]] at h; exact h
            have ct' : wr.cell? ⟨w6.heap.size, 0, none⟩ = some (.slice M.vt pc.length M.ct) := by have h := hSB.ct; rw [show M.gt = w6.heap.size by rw [HM.out]] at h; exact h
            obtain ⟨g, a, c, e1, hg1, _, _, _, _, ck, hIn⟩ := hSB.tc.part hlt
            obtain ⟨g2, a2, c2, e2, hg2, _, _, _, _, ck2, hIn2⟩ := hSB.tt.part hlt
            rw [e1] at cc
            rw [e2] at ct'
            have hcz := World.block_lt_of_cell? _ _ cc
            have htz := World.block_lt_of_cell? _ _ ct'
            have hm := HKc.out _ (List.getElem_mem hlt)
            have hIA := fun h => hIn.at_ (j := j) h (by simp)
            have hIB := fun h => hIn2.at_ (j := j) h (by simp)
            generalize (pc[i].kids.map fun i : Nat => (i : Int)) = zs at hIA hIB
            generalize pc[i].kids.length = m at *
            clear hIn hIn2 hSB e1 e2
            have hI2 : (i : Int) < (pc.length : Int) := by omega
            by_cases hlt2 : j < m
            · have hJ : (j : Int) < (m : Int) := by omega
              obtain ⟨h1, o1, rfl, hz1, d1⟩ := hIA hlt2
              obtain ⟨h2, o2, rfl, hz2, d2⟩ := hIB hlt2
              clear hIA hIB
              go_wp2_with fail
              go_region
              all_goals go_wp2
              all_goals
                go_roundw
                case rel => exact ⟨j + 1, by omega, by go_num, Lib.hid HB.out.drew⟩
                case measure => simp [intOf]; omega
            · obtain rfl : j = m := by omega
              have hJ : ¬ (j : Int) < (j : Int) := by omega
              clear hIA hIB
              go_wp2_with fail
              go_roundw
              case rel => exact ⟨i + 1, by omega, by go_num, HB⟩
              case measure => simp [intOf]; omega
        · obtain rfl : i = pc.length := by omega
          have hI : ¬ (pc.length : Int) < (pc.length : Int) := by omega
          have RA1 := Lib.hid (RA.out.below HB.out)
          have RO1 := Lib.hid (RO2.out.below HB.out)
          have ca : wr.cell? ⟨w2.heap.size, 0, none⟩ = some (.slice M.va ps.length ps.length) := by have h := SB.out.ca; rw [show M.ga = w2.heap.size by rw [HM.out]] at h; exact h
          have haz := World.block_lt_of_cell? _ _ ca
          obtain ⟨wB, rfl⟩ : ∃ x, x = wr := ⟨_, rfl⟩
          have eoa : M.oa = oa := by rw [HM.out]
          have EQ : Hid (M.ob = ob ∧ M.oc = oc' ∧ M.ow = ow ∧ M.ot = ot) := Lib.hid (by rw [HM.out]; exact ⟨rfl, rfl, rfl, rfl⟩)
          rw [eoa] at RO1 XP XO
          clear ct' htz
          go_wp2_with (first
            | (go_at_call 18; go_loud (refine (sameInts_any oc' ot (oc.map fun i : Nat => (i : Int)) (oc.map fun i : Nat => (i : Int)) w12 (by have h := RowIn.ints S12.out.tc.offs; rw [EQ.out.2.1] at h; exact h) (ints_own (by have h := S12.out.tt.offs; rw [EQ.out.2.2.2] at h; rw [List.map_map]; exact h)) (by simp; have := HLOc.out; omega) (by simp; have := HLOc.out; omega)).mono ?_; rintro e w13 ⟨he, hB⟩; rw [decide_eq_true rfl] at he; subst he; have S13 := Lib.hid (S12.out.below hB); clear hB))
            | (go_at_call 17; go_loud (refine (sameR_any n1 S11.out.tc S11.out.tt HKc.out).mono ?_; rintro e w12 ⟨rfl, hB⟩; have S12 := Lib.hid (S11.out.below hB); clear hB))
            | (go_at_call 18; go_loud (refine (sameInts_any ob ow (os.map fun i : Nat => (i : Int)) (os.map fun i : Nat => (i : Int)) w10 (by have h := RowIn.ints S10.out.tb.offs; rw [EQ.out.1] at h; exact h) (ints_own (by have h := S10.out.tw.offs; rw [EQ.out.2.2.1] at h; rw [List.map_map]; exact h)) (by simp; have := HLO.out; omega) (by simp; have := HLO.out; omega)).mono ?_; rintro e w11 ⟨he, hB⟩; rw [decide_eq_true rfl] at he; subst he; have S11 := Lib.hid (S10.out.below hB); have cc : w11.cell? ⟨w4.heap.size, 0, none⟩ = some (.slice M.vc pc.length pc.length) := (by have h := S11.out.cc; rw [show M.gc = w4.heap.size by rw [HM.out]] at h; exact h); have ct' : w11.cell? ⟨w6.heap.size, 0, none⟩ = some (.slice M.vt pc.length M.ct) := (by have h := S11.out.ct; rw [show M.gt = w6.heap.size by rw [HM.out]] at h; exact h); have hcz := World.block_lt_of_cell? _ _ cc; have htz := World.block_lt_of_cell? _ _ ct'; clear hB))
            | (go_at_call 17; go_loud (refine (sameR_any l1 S9.out.tb S9.out.tw HK.out).mono ?_; rintro e w10 ⟨rfl, hB⟩; have S10 := Lib.hid (S9.out.below hB); clear hB))
            | (go_at_call 19; go_loud (refine (wipe_int oa os.length ya (-1) w8 RO3.out (by have := HLO.out; omega)).mono ?_; rintro e w9 ⟨rfl, hk, _⟩; have S9 := Lib.hid (S8.out.keep (hk.mono fun k _ e => XO.out k e)); have cb : w9.cell? ⟨w3.heap.size, 0, none⟩ = some (.slice M.vb ps.length ps.length) := (by have h := S9.out.cb; rw [show M.gb = w3.heap.size by rw [HM.out]] at h; exact h); have cw' : w9.cell? ⟨w5.heap.size, 0, none⟩ = some (.slice M.vw ps.length M.cw) := (by have h := S9.out.cw; rw [show M.gw = w5.heap.size by rw [HM.out]] at h; exact h); have hcz := World.block_lt_of_cell? _ _ cb; have htz := World.block_lt_of_cell? _ _ cw'; clear hk))
            | (go_at_call 20; go_loud (refine (wipe_parts (.slice M.va ps.length ps.length) ps.length xa wB RA1.out (by omega)).mono ?_; rintro e w8 ⟨rfl, hk⟩; have S8 := Lib.hid (SB.out.keep (hk.mono fun k _ e => (XP.out k e).1)); have RO3 := Lib.hid (RO1.out.keep hk (fun k h1 h2 => (XP.out k h2).2 h1)); clear hk)))
          go_loopw [23] (fun v wq => ∃ i : Nat, i ≤ ps.length ∧ v = .int .i64 i ∧ Hid (P5 w M ps pc os oc w13 i wq)) (fun v _ => ps.length - (intOf v).toNat)
          case atStart => exact ⟨0, by omega, rfl, Lib.hid ⟨S13.out, by omega, Keep.refl _ _, fun j hj => by omega⟩⟩
          case round =>
            clear hcz htz cb cw' cc ct' S8 S9 S10 S11 S12 SB HB hI S RA RO2 XP XO RA1 RO1 RO3 haz
            obtain ⟨i, hi, rfl, HQ⟩ := hrel
            have cb : wr.cell? ⟨w3.heap.size, 0, none⟩ = some (.slice M.vb ps.length ps.length) := by have h := HQ.out.cb; rw [show M.gb = w3.heap.size by rw [HM.out]] at h; exact h
            have hbz := World.block_lt_of_cell? _ _ cb
            by_cases hlt : i < ps.length
            · have hI : (i : Int) < (ps.length : Int) := by omega
              obtain ⟨g, a, c, evb, ck, hkv⟩ := HQ.out.part hlt
              have hrw := (HQ.out.kids hlt (Nat.le_refl _)).1
              have hm := HK.out _ (List.getElem_mem hlt)
              have ST := Lib.hid (fun w1 => HQ.out.step (w1 := w1) hlt hkv)
              rw [evb] at cb
              rw [hkv] at hrw
              generalize ps[i].kids.length = m at ck hrw hm ST
              generalize ps[i].kids.map (fun k => Value.int .i64 (k : Nat)) = xs at hrw
              have HR := Lib.hid hrw
              have hgz := World.block_lt_of_cell? _ _ ck
              clear hrw evb
              go_wp2_with (go_at_call 19; refine (wipe_int _ m _ _ wr HR.out hm).mono ?_; rintro e w7 ⟨rfl, hkp, hmk⟩; have N := Lib.hid (ST.out w7 hkp hmk); clear hkp hmk)
              clear cb hbz ck hgz HR ST hkv hm hI
              go_loopw [24] (fun v wq => ∃ k : Nat, k ≤ ps.length ∧ v = .int .i64 k ∧ Hid (P5 w M ps pc os oc w13 (i + 1) wq)) (fun v _ => ps.length - (intOf v).toNat)
              case atStart => exact ⟨0, by omega, rfl, N⟩
              case round =>
                clear N HQ
                obtain ⟨k, hk, rfl, HQ⟩ := hrel
                have cb : wr.cell? ⟨w3.heap.size, 0, none⟩ = some (.slice M.vb ps.length ps.length) := by have h := HQ.out.cb; rw [show M.gb = w3.heap.size by rw [HM.out]] at h; exact h
                have hbz := World.block_lt_of_cell? _ _ cb
                by_cases hltk : k < ps.length
                · have hI : (k : Int) < (ps.length : Int) := by omega
                  go_wp2_with fail
                  clear cb hbz
                  go_loopw [25] (fun v wq => ∃ j : Nat, j ≤ ps[k].kids.length ∧ v = .int .i64 j ∧ Hid (P5 w M ps pc os oc w13 (i + 1) wq)) (fun v _ => ps[k].kids.length - (intOf v).toNat)
                  case atStart => exact ⟨0, by omega, rfl, HQ⟩
                  case round =>
                    clear HQ
                    obtain ⟨j, hj, rfl, HQ⟩ := hrel
                    have cb : wr.cell? ⟨w3.heap.size, 0, none⟩ = some (.slice M.vb ps.length ps.length) := by have h := HQ.out.cb; rw [show M.gb = w3.heap.size by rw [HM.out]] at h; exact h
                    have cw' : wr.cell? ⟨w5.heap.size, 0, none⟩ = some (.slice M.vw ps.length M.cw) := by have h := HQ.out.cw; rw [show M.gw = w5.heap.size by rw [HM.out]] at h; exact h
                    have hbz := World.block_lt_of_cell? _ _ cb
                    have hwz := World.block_lt_of_cell? _ _ cw'
                    obtain ⟨g, a, c, evb, ck, hkv⟩ := HQ.out.part hltk
                    obtain ⟨g2, a2, c2, evw, ck2, hIn2⟩ := HQ.out.want hltk
                    have hgz := World.block_lt_of_cell? _ _ ck
                    have hgz2 := World.block_lt_of_cell? _ _ ck2
                    rw [evb] at cb
                    rw [evw] at cw'
                    have hm := HK.out _ (List.getElem_mem hltk)
                    have hI2 : (k : Int) < (ps.length : Int) := by omega
                    have hold : k ≤ i → j < ps[k].kids.length → ∃ g, a = some ⟨g, 0, none⟩ ∧ g < wr.heap.size ∧ wr.cell? ⟨g, j, none⟩ = some (.int .i64 (-1000 - (k : Int))) := fun h1 h2 => by
                      have h := HQ.out.marks k (by omega) hltk
                      rw [hkv] at h
                      exact h.at_ h2
                    have hnew : ¬ k ≤ i → j < ps[k].kids.length → ∃ g o, a = some ⟨g, o, none⟩ ∧ g < wr.heap.size ∧ wr.cell? ⟨g, o + j, none⟩ = some (.int .i64 ((ps[k].kids.map fun i : Nat => (i : Int)).getD j 0)) := fun h1 h2 => by
                      have h := (HQ.out.kids hltk (by omega)).2
                      rw [hkv] at h
                      exact h.at_ h2 (by simp)
                    have hwant := fun h => hIn2.at_ (j := j) h (by simp)
                    clear hIn2 hkv evb evw
                    generalize (ps[k].kids.map fun i : Nat => (i : Int)) = zs at hnew hwant
                    generalize ps[k].kids.length = m at *
                    by_cases hlt2 : j < m
                    · have hJ : (j : Int) < (m : Int) := by omega
                      obtain ⟨h2, o2, rfl, hz2, d2⟩ := hwant hlt2
                      by_cases hki : k ≤ i
                      · have hKI : (k : Int) ≤ (i : Int) := by omega
                        have hKJ : ¬ (i : Int) < (k : Int) := by omega
                        have hND : decide (i < k) = false := decide_eq_false (by omega)
                        have hWR : IntKind.i64.wrap (-1000 - (k : Int)) = -1000 - (k : Int) := IntWalk.i64_in _ (by omega)
                        obtain ⟨h1, rfl, hz1, d1⟩ := hold hki hlt2
                        clear hold hnew hwant
                        go_wp2_with fail
                        go_quiet (fail)
                        go_wp2
                        go_roundw
                        case rel => exact ⟨j + 1, by omega, by go_num, Lib.hid (HQ.out.below (below_drewN (Below.refl _ _) _))⟩
                        case measure => simp [intOf]; omega
                      · have hKI : ¬ (k : Int) ≤ (i : Int) := by omega
                        have hKJ : (i : Int) < (k : Int) := by omega
                        obtain ⟨h1, o1, rfl, hz1, d1⟩ := hnew hki hlt2
                        clear hold hnew hwant
                        go_wp2_with fail
                        go_quiet (fail)
                        go_wp2
                        go_roundw
                        case rel => exact ⟨j + 1, by omega, by go_num, Lib.hid (HQ.out.below (below_drewN (Below.refl _ _) _))⟩
                        case measure => simp [intOf]; omega
                    · obtain rfl : j = m := by omega
                      have hJ : ¬ (j : Int) < (j : Int) := by omega
                      clear hold hnew hwant
                      go_wp2_with fail
                      go_roundw
                      case rel => exact ⟨k + 1, by omega, by go_num, HQ⟩
                      case measure => simp [intOf]; omega
                · obtain rfl : k = ps.length := by omega
                  have hI : ¬ (ps.length : Int) < (ps.length : Int) := by omega
                  go_wp2_with fail
                  go_roundw
                  case rel => exact ⟨i + 1, by omega, by go_num, HQ⟩
                  case measure => simp [intOf]; omega
            · obtain rfl : i = ps.length := by omega
              have hI : ¬ (ps.length : Int) < (ps.length : Int) := by omega
              go_wp2_with fail
              go_ret
              exact ⟨rfl, HQ.out.out⟩
end

end Go.Proofs.YtfiljgkcipnghaaGreatDoor.X
