/-
  The walk of the reference's TokenAt: words, numbers.
-/
import Derived.Test.YthcdmnndhjbbfaaDoorLexA
import Derived.Test.YthcdmnndhjbbfaaDoorLexM
import Derived.Deep.Cut
import Derived.Deep.CutBlock
import Derived.Deep.CutRange
set_option linter.unusedVariables false
set_option linter.unusedSimpArgs false
namespace Go.Proofs.YthcdmnndhjbbfaaDoor.X
open Go.RowKit
set_option maxHeartbeats 8000000 in
set_option maxRecDepth 100000 in
theorem refTok_word (s : ByteArray) (i : Nat) (w : World) (hs : s.size ≤ 1000000000000) (hi : i < s.size) (hw : wordB s[i] = true) (hd : digB s[i] = false) :
    Calls Tryd.prog 31 #[.string s, .int .i64 i] w (refAns w (.ok ⟨3, runL (s.data.toList.drop i), 0, i, i + (runL (s.data.toList.drop i)).length⟩)) := by
  have TZ := Lib.hid (Go.heap_alloc_new w (.cells zeroCells 44))
  have hI : ¬ ((s.size : Int) ≤ (i : Int)) := by omega
  have D1 := Lib.hid (fun W => refDigit_any s[i] W)
  have n34 : ((s[i].toNat : Int) == 34) = false := byte_ne s[i] 34 (by decide) (by intro e; rw [e] at hw; exact absurd hw (by decide))
  have n45 : ((s[i].toNat : Int) == 45) = false := byte_ne s[i] 45 (by decide) (by intro e; rw [e] at hw; exact absurd hw (by decide))
  have m45 : ((s[i].toNat : Int) != 45) = true := by rw [bne, n45]; rfl
  have HX := Lib.hid (run_word s i hi hw)
  have HLn := Lib.hid (run_word_len s i hi hw)
  have hE2 := twN_le s i (by omega)
  have hE3 := twN_yes hi hw
  rw [hd] at D1
  clear hd hw
  obtain ⟨E, hE⟩ : ∃ E, E = i + twN s i := ⟨_, rfl⟩
  have HE := Lib.hid hE
  rw [← hE] at HX hE2
  have hiE : i < E := by omega
  clear hE hE3
  go_enter Tryd.func31, Tryd.ntmps31
  go_upto_block 0 with ((go_at_call 38; (with_reducible refine (D1.out _).mono ?_); rintro e w5 ⟨rfl, rfl⟩))
  go_cut [12] from 61 to 72 (fun v wx => v = .int .i64 E ∧ wx = w.alloc (.cells zeroCells 44))
  case first =>
    go_wp2_with fail
    go_loopw [12] (fun v wr => ∃ k : Nat, i ≤ k ∧ k ≤ s.size ∧ v = .int .i64 k ∧ Hid (E = k + twN s k) ∧ w.alloc (.cells zeroCells 44) = wr) (fun v _ => s.size - (intOf v).toNat)
    case atStart => exact ⟨i, by omega, by omega, by go_num, HE, rfl⟩
    case round =>
      obtain ⟨k, hik, hk, rfl, HK, rfl⟩ := hrel
      by_cases hlt : k < s.size
      · have WC := Lib.hid (fun W => refWord_any s[k] W)
        have hI0 : (k : Int) < (s.size : Int) := by omega
        cases hw : wordB s[k] with
        | true =>
          have HK2 : Hid (E = (k + 1) + twN s (k + 1)) := Lib.hid (by rw [HK.out, twN_yes hlt hw]; omega)
          rw [hw] at WC
          clear hw
          go_wp2_with (go_at_call 39; refine (WC.out _).mono ?_; rintro e w3 ⟨rfl, rfl⟩)
          go_roundw
          case rel => exact ⟨k + 1, by omega, by omega, by go_num, HK2, trivial⟩
          case measure => simp [intOf]; omega
        | false =>
          have hEk : E = k := by rw [HK.out, twN_no hlt hw]; omega
          have HEK : Hid (k = E) := Lib.hid hEk.symm
          rw [hw] at WC
          clear hw hEk
          go_wp2_with (go_at_call 39; refine (WC.out _).mono ?_; rintro e w3 ⟨rfl, rfl⟩)
          go_meet
          case rel => exact ⟨by rw [HEK.out], rfl⟩
      · have hEk : E = k := by rw [HK.out, twN_end (by omega)]; omega
        have HEK : Hid (k = E) := Lib.hid hEk.symm
        have hI0 : ¬ ((k : Int) < (s.size : Int)) := by omega
        clear hEk
        go_wp2
        go_meet
        case rel => exact ⟨by rw [HEK.out], rfl⟩
  case rest =>
    obtain ⟨rfl, rfl⟩ := hcut
    go_wp2_with (first | (go_at_call 38; (with_reducible refine (D1.out _).mono ?_); rintro e w5 ⟨rfl, rfl⟩))
    try rw [Exit.noGoto_ret]
    have hl2 : i + (runL (s.data.toList.drop i)).length = E := by rw [HLn.out, HE.out]
    rw [hl2]
    refine bodyPost_ret (results_ctt rfl _ _ w.heap.size 44 #[.int .i64 3, .string (s.extract i E), .int .i64 0, .int .i64 i, .int .i64 E] (0, 0) _ (.int .i64 0) (.int .i64 0) rfl rfl rfl (Go.heap_alloc_new w _) Tryd.underlying44 rfl (by rw [tokSize]; rfl)) rfl ⟨(Below.refl _ _).alloc (Nat.le_refl _) _, ?_⟩
    simp only [tokV, tokCells, HX.out]

set_option maxHeartbeats 8000000 in
set_option maxRecDepth 100000 in
theorem refTok_dig (s : ByteArray) (i : Nat) (w : World) (hs : s.size ≤ 1000000000000) (hi : i < s.size) (hd : digB s[i] = true) :
    Calls Tryd.prog 31 #[.string s, .int .i64 i] w (refAns w (numRes (runL (s.data.toList.drop i)) i)) := by
  have TZ := Lib.hid (Go.heap_alloc_new w (.cells zeroCells 44))
  have hI : ¬ ((s.size : Int) ≤ (i : Int)) := by omega
  have D1 := Lib.hid (fun W => refDigit_any s[i] W)
  have n34 : ((s[i].toNat : Int) == 34) = false := byte_ne s[i] 34 (by decide) (by intro e; rw [e] at hd; exact absurd hd (by decide))
  have n45 : ((s[i].toNat : Int) == 45) = false := byte_ne s[i] 45 (by decide) (by intro e; rw [e] at hd; exact absurd hd (by decide))
  have m45 : ((s[i].toNat : Int) != 45) = true := by rw [bne, n45]; rfl
  have hwd : wordB s[i] = true := by simp [wordB, hd]
  have htw := twN_yes hi hwd
  have hb := run_bytes s i hi
  have hrl := run_len s i hi
  have hE2 := twN_le s (i + 1) (by omega)
  obtain ⟨E, hE⟩ : ∃ E, E = i + 1 + twN s (i + 1) := ⟨_, rfl⟩
  rw [← hE] at hb hE2
  have hiE : i < E := by omega
  have HLn : Hid (i + (runL (s.data.toList.drop i)).length = E) := Lib.hid (by omega)
  have NC := Lib.hid (fun W => refNumber_any (s.extract i E) W (by have := extract_le s i E; omega))
  rw [hb, ← num_eq] at NC
  unfold numRes
  obtain ⟨o, ho⟩ : ∃ o, o = numOf (runL (s.data.toList.drop i)) := ⟨_, rfl⟩
  rw [← ho] at NC ⊢
  have HE : Hid (E = i + twN s i) := Lib.hid (by omega)
  rw [hd] at D1
  clear hd hwd htw hb hrl hE ho
  go_enter Tryd.func31, Tryd.ntmps31
  go_upto_block 0 with ((go_at_call 38; (with_reducible refine (D1.out _).mono ?_); rintro e w5 ⟨rfl, rfl⟩))
  go_cut [12] from 61 to 72 (fun v wx => v = .int .i64 E ∧ wx = w.alloc (.cells zeroCells 44))
  case first =>
    go_wp2_with fail
    go_loopw [12] (fun v wr => ∃ k : Nat, i ≤ k ∧ k ≤ s.size ∧ v = .int .i64 k ∧ Hid (E = k + twN s k) ∧ w.alloc (.cells zeroCells 44) = wr) (fun v _ => s.size - (intOf v).toNat)
    case atStart => exact ⟨i, by omega, by omega, by go_num, HE, rfl⟩
    case round =>
      obtain ⟨k, hik, hk, rfl, HK, rfl⟩ := hrel
      by_cases hlt : k < s.size
      · have WC := Lib.hid (fun W => refWord_any s[k] W)
        have hI0 : (k : Int) < (s.size : Int) := by omega
        cases hw : wordB s[k] with
        | true =>
          have HK2 : Hid (E = (k + 1) + twN s (k + 1)) := Lib.hid (by rw [HK.out, twN_yes hlt hw]; omega)
          rw [hw] at WC
          clear hw
          go_wp2_with (go_at_call 39; refine (WC.out _).mono ?_; rintro e w3 ⟨rfl, rfl⟩)
          go_roundw
          case rel => exact ⟨k + 1, by omega, by omega, by go_num, HK2, trivial⟩
          case measure => simp [intOf]; omega
        | false =>
          have hEk : E = k := by rw [HK.out, twN_no hlt hw]; omega
          have HEK : Hid (k = E) := Lib.hid hEk.symm
          rw [hw] at WC
          clear hw hEk
          go_wp2_with (go_at_call 39; refine (WC.out _).mono ?_; rintro e w3 ⟨rfl, rfl⟩)
          go_meet
          case rel => exact ⟨by rw [HEK.out], rfl⟩
      · have hEk : E = k := by rw [HK.out, twN_end (by omega)]; omega
        have HEK : Hid (k = E) := Lib.hid hEk.symm
        have hI0 : ¬ ((k : Int) < (s.size : Int)) := by omega
        clear hEk
        go_wp2
        go_meet
        case rel => exact ⟨by rw [HEK.out], rfl⟩
  case rest =>
    obtain ⟨rfl, rfl⟩ := hcut
    cases o with
    | none =>
      simp only [numV] at NC
      go_wp2_with (first | (go_at_call 38; (with_reducible refine (D1.out _).mono ?_); rintro e w5 ⟨rfl, rfl⟩) | (go_at_call 40; refine (NC.out _).mono ?_; rintro e w6 ⟨rfl, rfl⟩))
      try rw [Exit.noGoto_ret]
      refine bodyPost_ret (results_ctt rfl _ _ w.heap.size 44 zeroCells (0, 0) _ (.int .i64 114) (.int .i64 i) rfl rfl rfl (Go.heap_alloc_new w _) Tryd.underlying44 rfl (by rw [tokSize]; rfl)) rfl ?_
      exact ⟨(Below.refl _ _).alloc (Nat.le_refl _) _, rfl⟩
    | some n =>
      simp only [numV] at NC
      go_wp2_with (first | (go_at_call 38; (with_reducible refine (D1.out _).mono ?_); rintro e w5 ⟨rfl, rfl⟩) | (go_at_call 40; refine (NC.out _).mono ?_; rintro e w6 ⟨rfl, rfl⟩))
      try rw [Exit.noGoto_ret]
      refine bodyPost_ret (results_ctt rfl _ _ w.heap.size 44 #[.int .i64 2, .string ⟨#[]⟩, .int .i64 n, .int .i64 i, .int .i64 E] (0, 0) _ (.int .i64 0) (.int .i64 0) rfl rfl rfl (Go.heap_alloc_new w _) Tryd.underlying44 rfl (by rw [tokSize]; rfl)) rfl ?_
      exact ⟨(Below.refl _ _).alloc (Nat.le_refl _) _, by rw [HLn.out]; rfl⟩

set_option maxHeartbeats 8000000 in
set_option maxRecDepth 100000 in
theorem refTok_minus (s : ByteArray) (i : Nat) (w : World) (hs : s.size ≤ 1000000000000) (hi : i < s.size) (c45 : s[i] = 45) (h1 : i + 1 < s.size) (hd : digB s[i + 1] = true) :
    Calls Tryd.prog 31 #[.string s, .int .i64 i] w (refAns w (numRes (runL (s.data.toList.drop i)) i)) := by
  have TZ := Lib.hid (Go.heap_alloc_new w (.cells zeroCells 44))
  have hI : ¬ ((s.size : Int) ≤ (i : Int)) := by omega
  have D1 := Lib.hid (fun W => refDigit_any s[i] W)
  have n34 : ((s[i].toNat : Int) == 34) = false := byte_ne s[i] 34 (by decide) (by intro e; rw [e] at c45; exact absurd c45 (by decide))
  have e45 : ((s[i].toNat : Int) == 45) = true := byte_eq s[i] 45 c45
  have m45 : ((s[i].toNat : Int) != 45) = false := by rw [bne, e45]; rfl
  have B1 := Lib.hid (fun x (hx : x = ((i + 1 : Nat) : Int)) W => byteAt_any s x (i + 1) hx W)
  have D2 := Lib.hid (fun W => refDigit_any (atB s (i + 1)) W)
  rw [atB_lt h1] at B1 D2
  rw [hd] at D2
  have hb := run_bytes s i hi
  have hrl := run_len s i hi
  have hE2 := twN_le s (i + 1) (by omega)
  obtain ⟨E, hE⟩ : ∃ E, E = i + 1 + twN s (i + 1) := ⟨_, rfl⟩
  rw [← hE] at hb hE2
  have hiE : i < E := by omega
  have HLn : Hid (i + (runL (s.data.toList.drop i)).length = E) := Lib.hid (by omega)
  have NC := Lib.hid (fun W => refNumber_any (s.extract i E) W (by have := extract_le s i E; omega))
  rw [hb, ← num_eq] at NC
  unfold numRes
  obtain ⟨o, ho⟩ : ∃ o, o = numOf (runL (s.data.toList.drop i)) := ⟨_, rfl⟩
  rw [← ho] at NC ⊢
  have HE : Hid (E = (i + 1) + twN s (i + 1)) := Lib.hid hE
  clear hd hb hrl hE ho c45
  go_enter Tryd.func31, Tryd.ntmps31
  go_upto_block 0 with (first | (go_at_call 28; (with_reducible refine (B1.out _ (by omega) _).mono ?_); rintro e w5 ⟨rfl, rfl⟩) | (go_at_call 38; (with_reducible refine (D2.out _).mono ?_); rintro e w5 ⟨rfl, rfl⟩))
  go_cut [12] from 61 to 72 (fun v wx => v = .int .i64 E ∧ wx = w.alloc (.cells zeroCells 44))
  case first =>
    go_wp2_with fail
    go_loopw [12] (fun v wr => ∃ k : Nat, i ≤ k ∧ k ≤ s.size ∧ v = .int .i64 k ∧ Hid (E = k + twN s k) ∧ w.alloc (.cells zeroCells 44) = wr) (fun v _ => s.size - (intOf v).toNat)
    case atStart => exact ⟨i + 1, by omega, by omega, by go_num, HE, rfl⟩
    case round =>
      obtain ⟨k, hik, hk, rfl, HK, rfl⟩ := hrel
      by_cases hlt : k < s.size
      · have WC := Lib.hid (fun W => refWord_any s[k] W)
        have hI0 : (k : Int) < (s.size : Int) := by omega
        cases hw : wordB s[k] with
        | true =>
          have HK2 : Hid (E = (k + 1) + twN s (k + 1)) := Lib.hid (by rw [HK.out, twN_yes hlt hw]; omega)
          rw [hw] at WC
          clear hw
          go_wp2_with (go_at_call 39; refine (WC.out _).mono ?_; rintro e w3 ⟨rfl, rfl⟩)
          go_roundw
          case rel => exact ⟨k + 1, by omega, by omega, by go_num, HK2, trivial⟩
          case measure => simp [intOf]; omega
        | false =>
          have hEk : E = k := by rw [HK.out, twN_no hlt hw]; omega
          have HEK : Hid (k = E) := Lib.hid hEk.symm
          rw [hw] at WC
          clear hw hEk
          go_wp2_with (go_at_call 39; refine (WC.out _).mono ?_; rintro e w3 ⟨rfl, rfl⟩)
          go_meet
          case rel => exact ⟨by rw [HEK.out], rfl⟩
      · have hEk : E = k := by rw [HK.out, twN_end (by omega)]; omega
        have HEK : Hid (k = E) := Lib.hid hEk.symm
        have hI0 : ¬ ((k : Int) < (s.size : Int)) := by omega
        clear hEk
        go_wp2
        go_meet
        case rel => exact ⟨by rw [HEK.out], rfl⟩
  case rest =>
    obtain ⟨rfl, rfl⟩ := hcut
    cases o with
    | none =>
      simp only [numV] at NC
      go_wp2_with (first | (go_at_call 38; (with_reducible refine (D2.out _).mono ?_); rintro e w5 ⟨rfl, rfl⟩) | (go_at_call 40; refine (NC.out _).mono ?_; rintro e w6 ⟨rfl, rfl⟩))
      try rw [Exit.noGoto_ret]
      refine bodyPost_ret (results_ctt rfl _ _ w.heap.size 44 zeroCells (0, 0) _ (.int .i64 114) (.int .i64 i) rfl rfl rfl (Go.heap_alloc_new w _) Tryd.underlying44 rfl (by rw [tokSize]; rfl)) rfl ?_
      exact ⟨(Below.refl _ _).alloc (Nat.le_refl _) _, rfl⟩
    | some n =>
      simp only [numV] at NC
      go_wp2_with (first | (go_at_call 38; (with_reducible refine (D2.out _).mono ?_); rintro e w5 ⟨rfl, rfl⟩) | (go_at_call 40; refine (NC.out _).mono ?_; rintro e w6 ⟨rfl, rfl⟩))
      try rw [Exit.noGoto_ret]
      refine bodyPost_ret (results_ctt rfl _ _ w.heap.size 44 #[.int .i64 2, .string ⟨#[]⟩, .int .i64 n, .int .i64 i, .int .i64 E] (0, 0) _ (.int .i64 0) (.int .i64 0) rfl rfl rfl (Go.heap_alloc_new w _) Tryd.underlying44 rfl (by rw [tokSize]; rfl)) rfl ?_
      exact ⟨(Below.refl _ _).alloc (Nat.le_refl _) _, by rw [HLn.out]; rfl⟩

end Go.Proofs.YthcdmnndhjbbfaaDoor.X
