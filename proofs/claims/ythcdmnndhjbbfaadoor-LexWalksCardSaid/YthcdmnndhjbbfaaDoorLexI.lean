/-
  The walk of the reference's TokenAt: a minus without a digit; all together.
-/
import Derived.Test.YthcdmnndhjbbfaaDoorLexH
set_option linter.unusedVariables false
set_option linter.unusedSimpArgs false
namespace Go.Proofs.YthcdmnndhjbbfaaDoor.X
open Go.RowKit
set_option maxHeartbeats 8000000 in
set_option maxRecDepth 100000 in
theorem refTok_dash (s : ByteArray) (i : Nat) (w : World) (hs : s.size ≤ 1000000000000) (hi : i < s.size) (h34 : ¬ s[i] = 34) (hd : digB s[i] = false) (hw : wordB s[i] = false) (c45 : s[i] = 45) (hd1 : digB (atB s (i + 1)) = false) :
    Calls Tryd.prog 31 #[.string s, .int .i64 i] w (refAns w (markRes i (findMark (s.data.toList.drop i) marksL))) := by
  have hI : ¬ ((s.size : Int) ≤ (i : Int)) := by omega
  have TZ := Lib.hid (Go.heap_alloc_new w (.cells zeroCells 44))
  have D1 := Lib.hid (fun W => refDigit_any s[i] W)
  have W1 := Lib.hid (fun W => refWord_any s[i] W)
  have n34 : ((s[i].toNat : Int) == 34) = false := byte_ne s[i] 34 (by decide) h34
  have e45 : ((s[i].toNat : Int) == 45) = true := byte_eq s[i] 45 c45
  have B1 := Lib.hid (fun x (hx : x = ((i + 1 : Nat) : Int)) W => byteAt_any s x (i + 1) hx W)
  have D2 := Lib.hid (fun W => refDigit_any (atB s (i + 1)) W)
  rw [hd1] at D2
  rw [hd] at D1
  rw [hw] at W1
  clear h34 hd hw c45 hd1
  obtain ⟨R, hR⟩ : ∃ R, R = findMark (s.data.toList.drop i) (marksL.drop 0) := ⟨_, rfl⟩
  have hR0 : findMark (s.data.toList.drop i) marksL = R := hR.symm
  rw [hR0]
  have HF := Lib.hid hR
  clear hR hR0
  go_enter Tryd.func31, Tryd.ntmps31
  go_upto_block 0 with (first | (go_at_call 28; (with_reducible refine (B1.out _ (by omega) _).mono ?_); rintro e w5 ⟨rfl, rfl⟩) | (go_at_call 38; (with_reducible refine (D2.out _).mono ?_); rintro e w5 ⟨rfl, rfl⟩))
  go_cut [12] from 61 to 72 (fun v wx => v = .int .i64 i ∧ wx = w.alloc (.cells zeroCells 44))
  case first =>
    go_wp2_with fail
    go_loopw [12] (fun v wr => v = .int .i64 i ∧ w.alloc (.cells zeroCells 44) = wr) (fun v _ => 0)
    case atStart => exact ⟨rfl, rfl⟩
    case round =>
      obtain ⟨rfl, rfl⟩ := hrel
      go_wp2_with (go_at_call 39; (with_reducible refine (W1.out _).mono ?_); rintro e w5 ⟨rfl, rfl⟩)
      go_meet
      case rel => exact ⟨rfl, rfl⟩
  case rest =>
    obtain ⟨rfl, rfl⟩ := hcut
    go_wp2_with fail
    go_loopw [16] (fun v wr => ∃ k : Nat, k ≤ 17 ∧ v = .int .i64 k ∧ Hid (R = findMark (s.data.toList.drop i) (marksL.drop k)) ∧ w.alloc (.cells zeroCells 44) = wr) (fun v _ => 17 - (intOf v).toNat)
    case atStart => exact ⟨0, by omega, rfl, HF, rfl⟩
    case round =>
      obtain ⟨k, hk, rfl, HK, rfl⟩ := hrel
      have MC := Lib.hid (fun W => refMarks_any k hk W)
      by_cases hlt : k < 17
      · rw [getD_lt k hlt] at MC
        have HK2 := Lib.hid (HK.out.trans (find_step (s.data.toList.drop i) k hlt))
        have hml := marks_two _ (List.getElem_mem hlt)
        have hmn := marks_some _ (List.getElem_mem hlt)
        generalize marksL[k] = m at MC HK2 hml hmn
        have hme : (!m.isEmpty) = true := by cases m with
          | nil => exact absurd rfl hmn
          | cons a b => rfl
        by_cases hle : i + m.length ≤ s.size
        · have hI3 : (i : Int) + (m.length : Int) ≤ (s.size : Int) := by omega
          have hp := pre_iff s i m hle
          cases hq : ((s.extract i (i + m.length)).toList == m) with
          | true =>
            have HE : Hid (R = some m) := Lib.hid (by rw [HK2.out, hp, hq]; rfl)
            clear hp hmn
            go_wp2_with (go_at_call 41; refine (MC.out _).mono ?_; rintro e w5 ⟨rfl, rfl⟩)
            try rw [Exit.noGoto_ret]
            rw [HE.out]
            refine bodyPost_ret (results_ctt rfl _ _ w.heap.size 44 #[.int .i64 4, .string ⟨m.toArray⟩, .int .i64 0, .int .i64 i, .int .i64 ((i : Int) + (m.length : Int))] (0, 0) _ (.int .i64 0) (.int .i64 0) rfl rfl rfl (Go.heap_alloc_new w _) Tryd.underlying44 rfl (by rw [tokSize]; rfl)) rfl ⟨(Below.refl _ _).alloc (Nat.le_refl _) _, rfl⟩
          | false =>
            have HE : Hid (R = findMark (s.data.toList.drop i) (marksL.drop (k + 1))) := Lib.hid (by rw [HK2.out, hp, hq]; rfl)
            clear hp hmn
            go_wp2_with (go_at_call 41; refine (MC.out _).mono ?_; rintro e w5 ⟨rfl, rfl⟩)
            exact ⟨⟨k + 1, by omega, by simp, HE, trivial⟩, by simp [intOf]; omega⟩
        · have hI3 : ¬ ((i : Int) + (m.length : Int) ≤ (s.size : Int)) := by omega
          have HE : Hid (R = findMark (s.data.toList.drop i) (marksL.drop (k + 1))) := Lib.hid (by rw [HK2.out, pre_no s i m (by omega) hle]; rfl)
          clear hmn
          go_wp2_with (go_at_call 41; refine (MC.out _).mono ?_; rintro e w5 ⟨rfl, rfl⟩)
          exact ⟨⟨k + 1, by omega, by simp, HE, trivial⟩, by simp [intOf]; omega⟩
      · obtain rfl : k = 17 := by omega
        have HE : Hid (R = none) := Lib.hid HK.out
        go_wp2_with (go_at_call 41; refine (MC.out _).mono ?_; rintro e w5 ⟨rfl, rfl⟩)
        try rw [Exit.noGoto_ret]
        rw [HE.out]
        refine bodyPost_ret (results_ctt rfl _ _ w.heap.size 44 zeroCells (0, 0) _ (.int .i64 111) (.int .i64 i) rfl rfl rfl (Go.heap_alloc_new w _) Tryd.underlying44 rfl (by rw [tokSize]; rfl)) rfl ⟨(Below.refl _ _).alloc (Nat.le_refl _) _, rfl⟩
/-- TokenAt, whatever stands there. -/
theorem refTok_any (s : ByteArray) (i : Nat) (w : World) (hs : s.size ≤ 1000000000000) (hi : i ≤ s.size) :
    Calls Tryd.prog 31 #[.string s, .int .i64 i] w (refAns w (tokAt s.data.toList i)) := by
  by_cases hlt : i < s.size
  · have hD := drop_at s i hlt
    unfold tokAt
    rw [hD]
    simp only
    rw [← hD]
    by_cases c34 : s[i] = 34
    · rw [if_pos c34]; exact refTok_text s i w hs hlt c34
    rw [if_neg c34]
    have fin : ∀ (hd : digB s[i] = false) (H : wordB s[i] = false → Calls Tryd.prog 31 #[.string s, .int .i64 i] w (refAns w (markRes i (findMark (s.data.toList.drop i) marksL)))),
        Calls Tryd.prog 31 #[.string s, .int .i64 i] w (refAns w (if wordB s[i] = true then .ok ⟨3, runL (s.data.toList.drop i), 0, i, i + (runL (s.data.toList.drop i)).length⟩ else match findMark (s.data.toList.drop i) marksL with
          | some m => .ok ⟨4, m, 0, i, i + m.length⟩
          | none => .error (111, i))) := by
      intro hd H
      cases hw : wordB s[i] with
      | true => simp only [if_true]; exact refTok_word s i w hs hlt hw hd
      | false =>
        simp only [Bool.false_eq_true, if_false]
        have h := H hw
        cases hm : findMark (s.data.toList.drop i) marksL with
        | some m => rw [hm] at h; exact h
        | none => rw [hm] at h; exact h
    cases hd : digB s[i] with
    | true =>
      simp only [Bool.true_or, if_true]
      exact refTok_dig s i w hs hlt hd
    | false =>
      simp only [Bool.false_or]
      by_cases c45 : s[i] = 45
      · by_cases h1 : i + 1 < s.size
        · have hD1 := drop_at s (i + 1) h1
          rw [hD1]
          cases hd2 : digB s[i + 1] with
          | true =>
            have e : (s[i] == 45 && digB s[i + 1]) = true := by rw [hd2, c45]; rfl
            simp only [e, if_true]
            exact refTok_minus s i w hs hlt c45 h1 hd2
          | false =>
            have e : (s[i] == 45 && digB s[i + 1]) = false := by rw [hd2, Bool.and_false]
            simp only [e, Bool.false_eq_true, if_false]
            exact fin hd (fun hw => refTok_dash s i w hs hlt c34 hd hw c45 (by rw [atB_lt h1]; exact hd2))
        · rw [drop_end s (i + 1) (by omega)]
          simp only [Bool.and_false, Bool.false_eq_true, if_false]
          exact fin hd (fun hw => refTok_dash s i w hs hlt c34 hd hw c45 (by rw [atB_ge h1]; decide))
      · have e : (s[i] == 45) = false := by simpa using c45
        simp only [e, Bool.false_and, Bool.false_eq_true, if_false]
        exact fin hd (fun hw => refTok_mark s i w hs hlt c34 hd hw c45)
  · obtain rfl : i = s.size := by omega
    have h : tokAt s.data.toList s.size = .ok ⟨0, [], 0, s.size, s.size⟩ := by
      unfold tokAt; rw [drop_end s s.size (Nat.le_refl _), size_len]
    rw [h]
    exact refTok_end s w hs

end Go.Proofs.YthcdmnndhjbbfaaDoor.X
