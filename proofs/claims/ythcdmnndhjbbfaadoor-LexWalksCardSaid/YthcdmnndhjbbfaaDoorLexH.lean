/-
  The walk of the reference's TokenAt at a mark.
-/
import Derived.Test.YthcdmnndhjbbfaaDoorLexB
set_option linter.unusedVariables false
set_option linter.unusedSimpArgs false
namespace Go.Proofs.YthcdmnndhjbbfaaDoor.X
open Go.RowKit
theorem pre_iff (s : ByteArray) (i : Nat) (m : Bs) (h : i + m.length ≤ s.size) : m.isPrefixOf (s.data.toList.drop i) = ((s.extract i (i + m.length)).toList == m) := by
  have e : (s.extract i (i + m.length)).toList = (s.data.toList.drop i).take m.length := by
    rw [ByteArray.toList_eq]
    simp only [ByteArray.data_extract, Array.toList_extract, List.extract_eq_take_drop]
    rw [show i + m.length - i = m.length by omega]
  rw [e, Bool.eq_iff_iff, List.isPrefixOf_iff_prefix, List.prefix_iff_eq_take, beq_iff_eq]
  exact eq_comm
theorem pre_no (s : ByteArray) (i : Nat) (m : Bs) (hi : i ≤ s.size) (h : ¬ i + m.length ≤ s.size) : m.isPrefixOf (s.data.toList.drop i) = false := by
  cases hp : m.isPrefixOf (s.data.toList.drop i) with
  | false => rfl
  | true =>
    have h2 := (List.isPrefixOf_iff_prefix.1 hp).length_le
    rw [List.length_drop, size_len] at h2
    omega
theorem marks_some : ∀ m ∈ marksL, m ≠ [] := by decide
theorem getD_lt (k : Nat) (h : k < 17) : marksL.getD k [] = marksL[k]'h := by
  rw [List.getD_eq_getElem?_getD, List.getElem?_eq_getElem h]; rfl
set_option maxHeartbeats 8000000 in
set_option maxRecDepth 100000 in
theorem refTok_mark (s : ByteArray) (i : Nat) (w : World) (hs : s.size ≤ 1000000000000) (hi : i < s.size) (h34 : ¬ s[i] = 34) (hd : digB s[i] = false) (hw : wordB s[i] = false) (n45b : ¬ s[i] = 45) :
    Calls Tryd.prog 31 #[.string s, .int .i64 i] w (refAns w (markRes i (findMark (s.data.toList.drop i) marksL))) := by
  have hI : ¬ ((s.size : Int) ≤ (i : Int)) := by omega
  have TZ := Lib.hid (Go.heap_alloc_new w (.cells zeroCells 44))
  have D1 := Lib.hid (fun W => refDigit_any s[i] W)
  have W1 := Lib.hid (fun W => refWord_any s[i] W)
  have n34 : ((s[i].toNat : Int) == 34) = false := byte_ne s[i] 34 (by decide) h34
  have n45 : ((s[i].toNat : Int) == 45) = false := byte_ne s[i] 45 (by decide) n45b
  rw [hd] at D1
  rw [hw] at W1
  clear h34 hd hw n45b
  obtain ⟨R, hR⟩ : ∃ R, R = findMark (s.data.toList.drop i) (marksL.drop 0) := ⟨_, rfl⟩
  have hR0 : findMark (s.data.toList.drop i) marksL = R := hR.symm
  rw [hR0]
  have HF := Lib.hid hR
  clear hR hR0
  go_enter Tryd.func31, Tryd.ntmps31
  go_upto_block 0 with (go_at_call 38; (with_reducible refine (D1.out _).mono ?_); rintro e w5 ⟨rfl, rfl⟩)
  go_cut [12] from 61 to 72 (fun v wx => v = .int .i64 i ∧ wx = w.alloc (.cells zeroCells 44))
  case first =>
    go_wp2_with fail
    go_loopw [12] (fun v wr => v = .int .i64 i ∧ w.alloc (.cells zeroCells 44) = wr) (fun v _ => 0)
    case atStart => exact ⟨rfl, rfl⟩
    case round =>
      obtain ⟨rfl, rfl⟩ := hrel
      go_wp2_with (go_at_call 39; (with_reducible refine (W1.out _).mono ?_); rintro e w5 ⟨rfl, rfl⟩)
      go_meet
      case rel => exact ⟨rfl, rfl⟩
  case rest =>
    obtain ⟨rfl, rfl⟩ := hcut
    go_wp2_with fail
    go_loopw [16] (fun v wr => ∃ k : Nat, k ≤ 17 ∧ v = .int .i64 k ∧ Hid (R = findMark (s.data.toList.drop i) (marksL.drop k)) ∧ w.alloc (.cells zeroCells 44) = wr) (fun v _ => 17 - (intOf v).toNat)
    case atStart => exact ⟨0, by omega, rfl, HF, rfl⟩
    case round =>
      obtain ⟨k, hk, rfl, HK, rfl⟩ := hrel
      have MC := Lib.hid (fun W => refMarks_any k hk W)
      by_cases hlt : k < 17
      · rw [getD_lt k hlt] at MC
        have HK2 := Lib.hid (HK.out.trans (find_step (s.data.toList.drop i) k hlt))
        have hml := marks_two _ (List.getElem_mem hlt)
        have hmn := marks_some _ (List.getElem_mem hlt)
        generalize marksL[k] = m at MC HK2 hml hmn
        have hme : (!m.isEmpty) = true := by cases m with
          | nil => exact absurd rfl hmn
          | cons a b => rfl
        by_cases hle : i + m.length ≤ s.size
        · have hI3 : (i : Int) + (m.length : Int) ≤ (s.size : Int) := by omega
          have hp := pre_iff s i m hle
          cases hq : ((s.extract i (i + m.length)).toList == m) with
          | true =>
            have HE : Hid (R = some m) := Lib.hid (by rw [HK2.out, hp, hq]; rfl)
            clear hp hmn
            go_wp2_with (go_at_call 41; refine (MC.out _).mono ?_; rintro e w5 ⟨rfl, rfl⟩)
            try rw [Exit.noGoto_ret]
            rw [HE.out]
            refine bodyPost_ret (results_ctt rfl _ _ w.heap.size 44 #[.int .i64 4, .string ⟨m.toArray⟩, .int .i64 0, .int .i64 i, .int .i64 ((i : Int) + (m.length : Int))] (0, 0) _ (.int .i64 0) (.int .i64 0) rfl rfl rfl (Go.heap_alloc_new w _) Tryd.underlying44 rfl (by rw [tokSize]; rfl)) rfl ⟨(Below.refl _ _).alloc (Nat.le_refl _) _, rfl⟩
          | false =>
            have HE : Hid (R = findMark (s.data.toList.drop i) (marksL.drop (k + 1))) := Lib.hid (by rw [HK2.out, hp, hq]; rfl)
            clear hp hmn
            go_wp2_with (go_at_call 41; refine (MC.out _).mono ?_; rintro e w5 ⟨rfl, rfl⟩)
            exact ⟨⟨k + 1, by omega, by simp, HE, trivial⟩, by simp [intOf]; omega⟩
        · have hI3 : ¬ ((i : Int) + (m.length : Int) ≤ (s.size : Int)) := by omega
          have HE : Hid (R = findMark (s.data.toList.drop i) (marksL.drop (k + 1))) := Lib.hid (by rw [HK2.out, pre_no s i m (by omega) hle]; rfl)
          clear hmn
          go_wp2_with (go_at_call 41; refine (MC.out _).mono ?_; rintro e w5 ⟨rfl, rfl⟩)
          exact ⟨⟨k + 1, by omega, by simp, HE, trivial⟩, by simp [intOf]; omega⟩
      · obtain rfl : k = 17 := by omega
        have HE : Hid (R = none) := Lib.hid HK.out
        go_wp2_with (go_at_call 41; refine (MC.out _).mono ?_; rintro e w5 ⟨rfl, rfl⟩)
        try rw [Exit.noGoto_ret]
        rw [HE.out]
        refine bodyPost_ret (results_ctt rfl _ _ w.heap.size 44 zeroCells (0, 0) _ (.int .i64 111) (.int .i64 i) rfl rfl rfl (Go.heap_alloc_new w _) Tryd.underlying44 rfl (by rw [tokSize]; rfl)) rfl ⟨(Below.refl _ _).alloc (Nat.le_refl _) _, rfl⟩

end Go.Proofs.YthcdmnndhjbbfaaDoor.X
