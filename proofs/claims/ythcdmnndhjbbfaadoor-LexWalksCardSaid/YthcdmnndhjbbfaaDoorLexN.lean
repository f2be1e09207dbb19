/-
  The walk of number.
-/
import Derived.Test.YthcdmnndhjbbfaaDoorLexNa
import Derived.RegionTactic
import Derived.Deep.RegionWith
import Derived.Lib.AppendIntMem
import Derived.Deep.Cut
import Derived.Deep.CutBlock
import Derived.Deep.CutRange
import Derived.Deep.QuietTactic
import Derived.BigQuiet
set_option linter.unusedVariables false
set_option linter.unusedSimpArgs false
namespace Go.Proofs.YthcdmnndhjbbfaaDoor.X
open Go.RowKit
set_option maxHeartbeats 60000000 in
set_option maxRecDepth 100000 in
theorem number_any (s : ByteArray) (i : Nat) (w : World) (hs : s.size ≤ 1000000000000) (hi : i < s.size) (hL : LW w) :
    Calls Tryd.prog 43 #[.string s, .int .i64 i] w (LexAns w (numRes (runL (s.data.toList.drop i)) i)) := by
  have hrun := run_bytes s i hi
  have hrl := run_len s i hi
  have hE2 := twN_le s (i + 1) (by omega)
  obtain ⟨E, hE⟩ : ∃ E, E = i + 1 + twN s (i + 1) := ⟨_, rfl⟩
  rw [← hE] at hrun hE2
  have hEi : i < E := by omega
  have hrl2 : (runL (s.data.toList.drop i)).length = E - i := by omega
  clear hrl
  generalize runL (s.data.toList.drop i) = run at hrun hrl2 ⊢
  have HE := Lib.hid hE
  clear hE
  have hN := numOf_eq run
  rw [← hrun] at hN
  have AC := Lib.hid (fun W (h : LW W) => atoi_c (s.extract i E) (by have := extract_le s i E; omega) W h)
  have hL1 : LW (w.alloc (.cells zeroCells 44)) := hL.below ((Below.refl _ _).alloc (Nat.le_refl _) _)
  have HL := Lib.hid hL1
  clear hL hL1
  have TZ := Lib.hid (Go.heap_alloc_new w (.cells zeroCells 44))
  have hEE := Lib.hid hE2
  go_enter Tryd.func43, Tryd.ntmps43
  go_upto_block 0 with fail
  go_cut [6] from 11 to 22 (fun v wx => v = .int .i64 E ∧ wx = w.alloc (.cells zeroCells 44))
  case first =>
    go_wp2_with fail
    go_loopw [6] (fun v wr => ∃ k : Nat, i + 1 ≤ k ∧ k ≤ s.size ∧ v = .int .i64 k ∧ Hid (E = k + twN s k) ∧ w.alloc (.cells zeroCells 44) = wr) (fun v _ => s.size - (intOf v).toNat)
    case atStart => exact ⟨i + 1, Nat.le_refl _, by omega, by go_num, HE, rfl⟩
    case round =>
      obtain ⟨k, hik, hk, rfl, HK, rfl⟩ := hrel
      by_cases hlt : k < s.size
      · have WC := Lib.hid (fun W => wordly_any s[k] W)
        have hI0 : (k : Int) < (s.size : Int) := by omega
        cases hw : wordB s[k] with
        | true =>
          have HK2 : Hid (E = (k + 1) + twN s (k + 1)) := Lib.hid (by rw [HK.out, twN_yes hlt hw]; omega)
          rw [hw] at WC
          clear hw
          go_wp2_with (go_at_call 44; refine (WC.out _).mono ?_; rintro e w3 ⟨rfl, rfl⟩)
          go_roundw
          case rel => exact ⟨k + 1, by omega, by omega, by go_num, HK2, trivial⟩
          case measure => simp [intOf]; omega
        | false =>
          have hEk : E = k := by rw [HK.out, twN_no hlt hw]; omega
          have HEK : Hid (k = E) := Lib.hid hEk.symm
          rw [hw] at WC
          clear hw hEk
          go_wp2_with (go_at_call 44; refine (WC.out _).mono ?_; rintro e w3 ⟨rfl, rfl⟩)
          go_meet
          case rel => exact ⟨by rw [HEK.out], rfl⟩
      · have hEk : E = k := by rw [HK.out, twN_end (by omega)]; omega
        have HEK : Hid (k = E) := Lib.hid hEk.symm
        have hI0 : ¬ ((k : Int) < (s.size : Int)) := by omega
        clear hEk
        go_wp2
        go_meet
        case rel => exact ⟨by rw [HEK.out], rfl⟩
  case rest =>
    obtain ⟨rfl, rfl⟩ := hcut
    have hE2 := hEE.out
    rcases numEnd_cases (Lib.atoiAll (s.extract i E).data.toList) with ⟨v, hat⟩ | hat | hat
    · rw [hat] at AC hN
      have hb2 := Lib.atoiAll_bounds hat
      have HN : Hid (numOf (s.extract i E).data.toList = if Lib.itoa v = (s.extract i E).data.toList ∧ (Lib.trimPrefix (s.extract i E).data.toList [45]).length ≤ 18 then some v else none) := Lib.hid hN
      clear hN hat
      by_cases hit : Lib.itoa v = (s.extract i E).data.toList
      · have IC := Lib.hid (fun W h => itoa_c v hb2.1 hb2.2 W h)
        have hx : (⟨(Lib.itoa v).toArray⟩ : ByteArray) = s.extract i E := by rw [hit]
        rw [hx] at IC
        have PC : Hid (∀ W, Calls Tryd.prog 52 #[.string (s.extract i E), .string ⟨#[45]⟩] W fun e w' => e = .returned (.string ⟨(Lib.trimPrefix (s.extract i E).data.toList [45]).toArray⟩) ∧ w' = W) := Lib.hid (fun W => Tryd.strings_TrimPrefix (s.extract i E) ⟨#[45]⟩ W)
        by_cases hlong : (Lib.trimPrefix (s.extract i E).data.toList [45]).length ≤ 18
        · have HR : Hid (numRes run i = .ok ⟨2, [], v, i, E⟩) := Lib.hid (by
            have hl3 : i + run.length = E := by omega
            unfold numRes; rw [hl3, ← hrun, HN.out, if_pos ⟨hit, hlong⟩])
          have hI18 : ¬ ((18 : Int) < ((Lib.trimPrefix (s.extract i E).data.toList [45]).length : Int)) := by omega
          have hI18b : decide ((18 : Int) < ((Lib.trimPrefix (s.extract i E).data.toList [45]).length : Int)) = false := by simpa using hI18
          generalize Lib.trimPrefix (s.extract i E).data.toList [45] = tp at PC hI18 hI18b
          clear hlong hit hx hb2
          go_upto_region 5 with (go_at_call 51; refine (AC.out _ HL.out).mono ?_; rintro e w3 ⟨rfl, hB3⟩)
          have HL3 := Lib.hid (HL.out.below hB3)
          have HB3 : Hid (Below (w.heap.size + 1) (w.alloc (.cells zeroCells 44)) w3) := Lib.hid (by simpa using hB3)
          clear hB3
          go_cut [50] from 31 to 50 (fun b wx => b = .bool false ∧ Hid (Below (w.heap.size + 1) (w.alloc (.cells zeroCells 44)) wx))
          case first =>
            first
              | go_region_with (first | (go_at_call 25; refine (IC.out _ ?hlw).mono ?_; (case hlw => exact HL3.out.below ((Below.refl _ _).drew)); rintro e w5 ⟨rfl, hB5⟩; have HB5 : Hid (Below (w.heap.size + 1) (w.alloc (.cells zeroCells 44)) w5) := (by first | exact Lib.hid (HB3.out.drew.trans (hB5.mono (Nat.le_trans (by simp) HB3.out.size))) | exact Lib.hid (HB3.out.drew.trans (hB5.mono (by have := HB3.out.size; simp at this ⊢; omega))) | exact Lib.hid (HB3.out.trans (hB5.mono (by have := HB3.out.size; simp at this ⊢; omega)))); clear hB5) | (go_at_call 52; refine (PC.out _).mono ?_; rintro e w6 ⟨rfl, rfl⟩))
              | fail
            all_goals (go_wp2_with fail; go_meet)
            all_goals first | exact ⟨rfl, HB5⟩ | exact ⟨rfl, Lib.hid HB5.out.drew⟩ | exact ⟨by simp, HB5⟩
          case rest =>
            obtain ⟨rfl, HB⟩ := hcut
            have tzc := (HB.out.block w.heap.size (by omega)).trans TZ.out
            have y0 : wc.cell? ⟨w.heap.size, 0, none⟩ = some (.int .i64 0) := (Lib.cell_of_heap tzc _).trans rfl
            have y1 : wc.cell? ⟨w.heap.size, 1, none⟩ = some (.string ⟨#[]⟩) := (Lib.cell_of_heap tzc _).trans rfl
            have y2 : wc.cell? ⟨w.heap.size, 2, none⟩ = some (.int .i64 0) := (Lib.cell_of_heap tzc _).trans rfl
            have y3 : wc.cell? ⟨w.heap.size, 3, none⟩ = some (.int .i64 0) := (Lib.cell_of_heap tzc _).trans rfl
            have y4 : wc.cell? ⟨w.heap.size, 4, none⟩ = some (.int .i64 0) := (Lib.cell_of_heap tzc _).trans rfl
            have yf : ∀ j, wc.frozen? ⟨w.heap.size, j, none⟩ = false := fun j => by simp [World.frozen?, tzc]
            have hzc : w.heap.size < wc.heap.size := (Array.getElem?_eq_some_iff.1 tzc).1
            have HZ := Lib.hid tzc
            clear tzc
            go_wp2
            try rw [Exit.noGoto_ret]
            rw [HR.out]
            refine bodyPost_ret (results_ct rfl _ _ w.heap.size 44 #[.int .i64 2, .string ⟨#[]⟩, .int .i64 v, .int .i64 i, .int .i64 E] (0, 0) _ (.pointer none) rfl rfl (set5_same _ _ _ _ _ _ _ _ _ _ _ _ _ HZ.out) Tryd.underlying44 rfl (by rw [tokSize]; rfl)) rfl ⟨rfl, ?_⟩
            exact set5_below (((Below.refl _ _).alloc (Nat.le_refl _) _).trans (HB.out.mono (by omega))) w.heap.size (Nat.le_refl _) _ _ _ _ _
        · have HR : Hid (numRes run i = .error (114, i)) := Lib.hid (by unfold numRes; rw [← hrun, HN.out, if_neg (fun h => hlong h.2)])
          have hI18 : (18 : Int) < ((Lib.trimPrefix (s.extract i E).data.toList [45]).length : Int) := by omega
          generalize Lib.trimPrefix (s.extract i E).data.toList [45] = tp at PC hI18
          clear hlong hit hx hb2
          go_upto_region 5 with (go_at_call 51; refine (AC.out _ HL.out).mono ?_; rintro e w3 ⟨rfl, hB3⟩)
          have HL3 := Lib.hid (HL.out.below hB3)
          have HB3 : Hid (Below (w.heap.size + 1) (w.alloc (.cells zeroCells 44)) w3) := Lib.hid (by simpa using hB3)
          clear hB3
          go_cut [50] from 31 to 50 (fun b wx => b = .bool true ∧ Hid (Below (w.heap.size + 1) (w.alloc (.cells zeroCells 44)) wx))
          case first =>
            first
              | go_region_with (first | (go_at_call 25; refine (IC.out _ ?hlw).mono ?_; (case hlw => exact HL3.out.below ((Below.refl _ _).drew)); rintro e w5 ⟨rfl, hB5⟩; have HB5 : Hid (Below (w.heap.size + 1) (w.alloc (.cells zeroCells 44)) w5) := (by first | exact Lib.hid (HB3.out.drew.trans (hB5.mono (Nat.le_trans (by simp) HB3.out.size))) | exact Lib.hid (HB3.out.drew.trans (hB5.mono (by have := HB3.out.size; simp at this ⊢; omega))) | exact Lib.hid (HB3.out.trans (hB5.mono (by have := HB3.out.size; simp at this ⊢; omega)))); clear hB5) | (go_at_call 52; refine (PC.out _).mono ?_; rintro e w6 ⟨rfl, rfl⟩))
              | fail
            all_goals (go_wp2_with fail; go_meet)
            all_goals first | exact ⟨rfl, HB5⟩ | exact ⟨rfl, Lib.hid HB5.out.drew⟩ | exact ⟨by simp, HB5⟩
          case rest =>
            obtain ⟨rfl, HB⟩ := hcut
            have tzc := (HB.out.block w.heap.size (by omega)).trans TZ.out
            have y0 : wc.cell? ⟨w.heap.size, 0, none⟩ = some (.int .i64 0) := (Lib.cell_of_heap tzc _).trans rfl
            have y1 : wc.cell? ⟨w.heap.size, 1, none⟩ = some (.string ⟨#[]⟩) := (Lib.cell_of_heap tzc _).trans rfl
            have y2 : wc.cell? ⟨w.heap.size, 2, none⟩ = some (.int .i64 0) := (Lib.cell_of_heap tzc _).trans rfl
            have y3 : wc.cell? ⟨w.heap.size, 3, none⟩ = some (.int .i64 0) := (Lib.cell_of_heap tzc _).trans rfl
            have y4 : wc.cell? ⟨w.heap.size, 4, none⟩ = some (.int .i64 0) := (Lib.cell_of_heap tzc _).trans rfl
            have yf : ∀ j, wc.frozen? ⟨w.heap.size, j, none⟩ = false := fun j => by simp [World.frozen?, tzc]
            have hzc : w.heap.size < wc.heap.size := (Array.getElem?_eq_some_iff.1 tzc).1
            have HZ := Lib.hid tzc
            clear tzc
            go_wp2_with (go_at_call 26; refine (fault_any _ _ _).mono ?_; rintro e w5 ⟨rfl, rfl⟩)
            try rw [Exit.noGoto_ret]
            rw [HR.out]
            exact bodyPost_ret (results_ct rfl _ _ w.heap.size 44 zeroCells (0, 0) _ (.pointer (some ⟨wc.heap.size, 0, none⟩)) rfl rfl (err_row 114 i HZ.out) Tryd.underlying44 rfl (by rw [tokSize]; rfl)) rfl (err_end 114 i HB.out)
      · have IC := Lib.hid (fun W h => itoa_c v hb2.1 hb2.2 W h)
        have hx : ((⟨(Lib.itoa v).toArray⟩ : ByteArray).toList == (s.extract i E).toList) = false := by
          rw [ByteArray.toList_eq, ByteArray.toList_eq]; simpa using hit
        generalize (⟨(Lib.itoa v).toArray⟩ : ByteArray) = t at IC hx
        have HR : Hid (numRes run i = .error (114, i)) := Lib.hid (by unfold numRes; rw [← hrun, HN.out, if_neg (fun h => hit h.1)])
        clear hit hb2
        go_upto_region 5 with (go_at_call 51; refine (AC.out _ HL.out).mono ?_; rintro e w3 ⟨rfl, hB3⟩)
        have HL3 := Lib.hid (HL.out.below hB3)
        have HB3 : Hid (Below (w.heap.size + 1) (w.alloc (.cells zeroCells 44)) w3) := Lib.hid (by simpa using hB3)
        clear hB3
        go_cut [50] from 31 to 50 (fun b wx => b = .bool true ∧ Hid (Below (w.heap.size + 1) (w.alloc (.cells zeroCells 44)) wx))
        case first =>
          first
            | go_region_with (first | (go_at_call 25; refine (IC.out _ ?hlw).mono ?_; (case hlw => exact HL3.out.below ((Below.refl _ _).drew)); rintro e w5 ⟨rfl, hB5⟩; have HB5 : Hid (Below (w.heap.size + 1) (w.alloc (.cells zeroCells 44)) w5) := (by first | exact Lib.hid (HB3.out.drew.trans (hB5.mono (Nat.le_trans (by simp) HB3.out.size))) | exact Lib.hid (HB3.out.drew.trans (hB5.mono (by have := HB3.out.size; simp at this ⊢; omega))) | exact Lib.hid (HB3.out.trans (hB5.mono (by have := HB3.out.size; simp at this ⊢; omega)))); clear hB5))
            | fail
          all_goals (go_wp2_with fail; go_meet)
          all_goals first | exact ⟨rfl, HB5⟩ | exact ⟨rfl, Lib.hid HB5.out.drew⟩ | exact ⟨by simp, HB5⟩
        case rest =>
          obtain ⟨rfl, HB⟩ := hcut
          have tzc := (HB.out.block w.heap.size (by omega)).trans TZ.out
          have y0 : wc.cell? ⟨w.heap.size, 0, none⟩ = some (.int .i64 0) := (Lib.cell_of_heap tzc _).trans rfl
          have y1 : wc.cell? ⟨w.heap.size, 1, none⟩ = some (.string ⟨#[]⟩) := (Lib.cell_of_heap tzc _).trans rfl
          have y2 : wc.cell? ⟨w.heap.size, 2, none⟩ = some (.int .i64 0) := (Lib.cell_of_heap tzc _).trans rfl
          have y3 : wc.cell? ⟨w.heap.size, 3, none⟩ = some (.int .i64 0) := (Lib.cell_of_heap tzc _).trans rfl
          have y4 : wc.cell? ⟨w.heap.size, 4, none⟩ = some (.int .i64 0) := (Lib.cell_of_heap tzc _).trans rfl
          have yf : ∀ j, wc.frozen? ⟨w.heap.size, j, none⟩ = false := fun j => by simp [World.frozen?, tzc]
          have hzc : w.heap.size < wc.heap.size := (Array.getElem?_eq_some_iff.1 tzc).1
          have HZ := Lib.hid tzc
          clear tzc
          go_wp2_with (go_at_call 26; refine (fault_any _ _ _).mono ?_; rintro e w5 ⟨rfl, rfl⟩)
          try rw [Exit.noGoto_ret]
          rw [HR.out]
          exact bodyPost_ret (results_ct rfl _ _ w.heap.size 44 zeroCells (0, 0) _ (.pointer (some ⟨wc.heap.size, 0, none⟩)) rfl rfl (err_row 114 i HZ.out) Tryd.underlying44 rfl (by rw [tokSize]; rfl)) rfl (err_end 114 i HB.out)
    · rw [hat] at AC hN
      have HR : Hid (numRes run i = .error (114, i)) := Lib.hid (by unfold numRes; rw [← hrun, hN])
      clear hat hN
      go_upto_region 5 with (go_at_call 51; refine (AC.out _ HL.out).mono ?_; rintro e w3 ⟨x, N, rfl, hB3⟩)
      have HB3 : Hid (Below (w.heap.size + 1) (w.alloc (.cells zeroCells 44)) w3) := Lib.hid (by simpa using hB3)
      clear hB3
      go_cut [50] from 31 to 50 (fun b wx => b = .bool true ∧ Hid (Below (w.heap.size + 1) (w.alloc (.cells zeroCells 44)) wx))
      case first =>
        go_wp2_with fail
        go_quiet (fail)
        go_wp2_with fail
        go_meet
        exact ⟨rfl, Lib.hid (below_drewN HB3.out _)⟩
      case rest =>
        obtain ⟨rfl, HB⟩ := hcut
        have tzc := (HB.out.block w.heap.size (by omega)).trans TZ.out
        have y0 : wc.cell? ⟨w.heap.size, 0, none⟩ = some (.int .i64 0) := (Lib.cell_of_heap tzc _).trans rfl
        have y1 : wc.cell? ⟨w.heap.size, 1, none⟩ = some (.string ⟨#[]⟩) := (Lib.cell_of_heap tzc _).trans rfl
        have y2 : wc.cell? ⟨w.heap.size, 2, none⟩ = some (.int .i64 0) := (Lib.cell_of_heap tzc _).trans rfl
        have y3 : wc.cell? ⟨w.heap.size, 3, none⟩ = some (.int .i64 0) := (Lib.cell_of_heap tzc _).trans rfl
        have y4 : wc.cell? ⟨w.heap.size, 4, none⟩ = some (.int .i64 0) := (Lib.cell_of_heap tzc _).trans rfl
        have yf : ∀ j, wc.frozen? ⟨w.heap.size, j, none⟩ = false := fun j => by simp [World.frozen?, tzc]
        have hzc : w.heap.size < wc.heap.size := (Array.getElem?_eq_some_iff.1 tzc).1
        have HZ := Lib.hid tzc
        clear tzc
        go_wp2_with (go_at_call 26; refine (fault_any _ _ _).mono ?_; rintro e w5 ⟨rfl, rfl⟩)
        try rw [Exit.noGoto_ret]
        rw [HR.out]
        exact bodyPost_ret (results_ct rfl _ _ w.heap.size 44 zeroCells (0, 0) _ (.pointer (some ⟨wc.heap.size, 0, none⟩)) rfl rfl (err_row 114 i HZ.out) Tryd.underlying44 rfl (by rw [tokSize]; rfl)) rfl (err_end 114 i HB.out)
    · rw [hat] at AC hN
      have HR : Hid (numRes run i = .error (114, i)) := Lib.hid (by unfold numRes; rw [← hrun, hN])
      clear hat hN
      go_upto_region 5 with (go_at_call 51; refine (AC.out _ HL.out).mono ?_; rintro e w3 ⟨x, N, rfl, hB3⟩)
      have HB3 : Hid (Below (w.heap.size + 1) (w.alloc (.cells zeroCells 44)) w3) := Lib.hid (by simpa using hB3)
      clear hB3
      go_cut [50] from 31 to 50 (fun b wx => b = .bool true ∧ Hid (Below (w.heap.size + 1) (w.alloc (.cells zeroCells 44)) wx))
      case first =>
        go_wp2_with fail
        go_quiet (fail)
        go_wp2_with fail
        go_meet
        exact ⟨rfl, Lib.hid (below_drewN HB3.out _)⟩
      case rest =>
        obtain ⟨rfl, HB⟩ := hcut
        have tzc := (HB.out.block w.heap.size (by omega)).trans TZ.out
        have y0 : wc.cell? ⟨w.heap.size, 0, none⟩ = some (.int .i64 0) := (Lib.cell_of_heap tzc _).trans rfl
        have y1 : wc.cell? ⟨w.heap.size, 1, none⟩ = some (.string ⟨#[]⟩) := (Lib.cell_of_heap tzc _).trans rfl
        have y2 : wc.cell? ⟨w.heap.size, 2, none⟩ = some (.int .i64 0) := (Lib.cell_of_heap tzc _).trans rfl
        have y3 : wc.cell? ⟨w.heap.size, 3, none⟩ = some (.int .i64 0) := (Lib.cell_of_heap tzc _).trans rfl
        have y4 : wc.cell? ⟨w.heap.size, 4, none⟩ = some (.int .i64 0) := (Lib.cell_of_heap tzc _).trans rfl
        have yf : ∀ j, wc.frozen? ⟨w.heap.size, j, none⟩ = false := fun j => by simp [World.frozen?, tzc]
        have hzc : w.heap.size < wc.heap.size := (Array.getElem?_eq_some_iff.1 tzc).1
        have HZ := Lib.hid tzc
        clear tzc
        go_wp2_with (go_at_call 26; refine (fault_any _ _ _).mono ?_; rintro e w5 ⟨rfl, rfl⟩)
        try rw [Exit.noGoto_ret]
        rw [HR.out]
        exact bodyPost_ret (results_ct rfl _ _ w.heap.size 44 zeroCells (0, 0) _ (.pointer (some ⟨wc.heap.size, 0, none⟩)) rfl rfl (err_row 114 i HZ.out) Tryd.underlying44 rfl (by rw [tokSize]; rfl)) rfl (err_end 114 i HB.out)

end Go.Proofs.YthcdmnndhjbbfaaDoor.X
