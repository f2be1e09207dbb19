/-
  The walk of LexBack.
-/
import Derived.Test.YthcdmnndhjbbfaaDoorLawScans
import Derived.Test.YthcdmnndhjbbfaaDoorLexBk
set_option linter.unusedVariables false
set_option linter.unusedSimpArgs false
namespace Go.Proofs.YthcdmnndhjbbfaaDoor.X
open Go.RowKit

theorem ba_self (s : ByteArray) : (⟨s.data.toList.toArray⟩ : ByteArray) = s := by cases s; simp

theorem tokAt_new' (W : World) (ts : List Tk) (n : Nat) (hn : ts.length = n) (cs : Array Value) (cap : Nat) (h : cs.toList = tokRow ts) : TokAt (W.alloc (.cells cs 44)) (.slice (some ⟨W.heap.size, 0, none⟩) n cap) ts := by
  subst hn; exact tokAt_new W ts cs cap h
set_option maxHeartbeats 8000000 in
set_option maxRecDepth 100000 in
theorem lexBack_any (s : ByteArray) (w : World) (hs : s.size ≤ 1048576) (hL : LW w) :
    Calls Tryd.prog 9 #[.string s] w fun e w' => e = .returned (.bool true) ∧ Below w.heap.size w w' := by
  have HL := Lib.hid hL
  have Q1 := quote_any s
  have hf := (qAll_fine s.data.toList).2
  have hql := quote_len s.data.toList
  rw [size_len] at hf
  obtain ⟨q, hq⟩ : ∃ q : ByteArray, q = ⟨(quoteL s.data.toList).toArray⟩ := ⟨_, rfl⟩
  have hqd : q.data.toList = quoteL s.data.toList := by rw [hq]
  have hqz : q.size = (quoteL s.data.toList).length := by rw [← hqd, size_len]
  rw [← hq] at Q1
  have QC := Lib.hid (fun W => Q1 W (by omega))
  have U1 := unquote_any q
  rw [hqd, unq_quote, ← hqz, size_len] at U1
  have UC := Lib.hid (fun W => U1 W (by omega))
  have h2 : 2 ≤ q.size := by omega
  have h2b : q.size ≤ 10000000 := by omega
  have h0q : 0 < q.size := by omega
  have q0 : q[0]'h0q = 34 := by
    have : q.data.toList[0]'(by rw [size_len]; omega) = 34 := by simp only [hqd]; rfl
    exact this
  have e34 : (((q[0]'h0q).toNat : Int) != 34) = false := by rw [q0]; rfl
  have HR : Hid (∀ k (h : k < q.size), ¬ ((q[k].toNat : Int) < 32) ∧ ¬ ((126 : Int) < (q[k].toNat : Int))) := Lib.hid (fun k h => by
    have hm : q[k] ∈ quoteL s.data.toList := by
      rw [← hqd]
      exact List.getElem_mem (l := q.data.toList) (by rw [size_len]; exact h)
    have := quote_fine s.data.toList _ hm
    rw [UInt8.le_iff_toNat_le, UInt8.le_iff_toNat_le] at this
    simp at this
    omega)
  have HQ := Lib.hid hqd
  clear hL Q1 hf hql hq hqd hqz U1 q0
  go_enter Tryd.func9, Tryd.ntmps9
  go_wp2_with (first
    | (go_at_call 11; refine (fixedQuote_any _).mono ?_; rintro e w4 ⟨rfl, hF0⟩; have HF0 := Lib.hid hF0; clear hF0)
    | (go_at_call 17; refine (fixed_any _ (HL.out.below HF0.out)).mono ?_; rintro e w5 ⟨rfl, hF⟩; have HF := Lib.hid (HF0.out.trans (hF.mono HF0.out.size)); clear hF)
    | (go_at_call 12; refine (QC.out _).mono ?_; rintro e w6 ⟨rfl, hB6⟩; have HB6 := Lib.hid (HF.out.trans (hB6.mono HF.out.size)); clear hB6))
  go_loopw [4] (fun j wr => ∃ k : Nat, k ≤ q.size ∧ j = .int .i64 k ∧ w6 = wr) (fun j _ => q.size - (intOf j).toNat)
  case atStart => exact ⟨0, Nat.zero_le _, rfl, rfl⟩
  case round =>
    obtain ⟨k, hk, rfl, rfl⟩ := hrel
    by_cases hlt : k < q.size
    · obtain ⟨hr1, hr2⟩ := HR.out k hlt
      have hI : (k : Int) < (q.size : Int) := by omega
      go_wp2_with fail
      go_roundw
      case rel => exact ⟨k + 1, by omega, by go_num, trivial⟩
      case measure => simp [intOf]; omega
    · have hI : ¬ ((k : Int) < (q.size : Int)) := by omega
      have HLw := Lib.hid (HL.out.below HB6.out)
      by_cases hq4 : 4096 < q.size
      · have hI4 : (4096 : Int) < (q.size : Int) := by omega
        rw [if_pos hq4] at UC
        clear hq4
        go_wp2_with (first
          | (go_at_call 14; refine (UC.out _).mono ?_; rintro e w7 ⟨b, rfl, hb1, hb2, hB7⟩; have HB7 := Lib.hid hB7; have HF7 := Lib.hid hb2; clear hB7 hb2)
          | (go_at_call 16; refine (isFault_some b 110 4096 (by decide) _ HF7.out).mono ?_; rintro e w8 ⟨rfl, rfl⟩))
        go_ret
        exact ⟨rfl, HB6.out.trans (HB7.out.mono HB6.out.size)⟩
      · have hI4 : ¬ ((4096 : Int) < (q.size : Int)) := by omega
        rw [if_neg hq4] at UC
        by_cases hs1 : 127 < s.size
        · have hI5 : (127 : Int) < (s.size : Int) := by omega
          rw [if_pos hs1] at UC
          clear hs1 hq4
          go_wp2_with (first
            | (go_at_call 14; refine (UC.out _).mono ?_; rintro e w7 ⟨b, rfl, hb1, hb2, hB7⟩; have HB7 := Lib.hid hB7; have HF7 := Lib.hid hb2; clear hB7 hb2)
            | (go_at_call 16; refine (isFault_some b 115 0 (by decide) _ HF7.out).mono ?_; rintro e w8 ⟨rfl, rfl⟩))
          go_ret
          exact ⟨rfl, HB6.out.trans (HB7.out.mono HB6.out.size)⟩
        · have hI5 : ¬ ((127 : Int) < (s.size : Int)) := by omega
          rw [if_neg hs1] at UC
          have UC2 : Hid (∀ W, Calls Tryd.prog 14 #[.string q] W fun e w' => e = .returned (.tuple #[.string s, .nilIface]) ∧ Below W.heap.size W w') := Lib.hid (fun W => (UC.out W).mono fun e w' h => ⟨by rw [h.1, ba_self], h.2⟩)
          have hsz : ((⟨#[97]⟩ : ByteArray) ++ q ++ ⟨#[46]⟩).size ≤ 9223372036854775807 := by rw [ByteArray.size_append, ByteArray.size_append]; have : (⟨#[97]⟩ : ByteArray).size = 1 := rfl; have : (⟨#[46]⟩ : ByteArray).size = 1 := rfl; omega
          have hd : ((⟨#[97]⟩ : ByteArray) ++ q ++ ⟨#[46]⟩).data.toList = 97 :: (quoteL s.data.toList ++ [46]) := by simp [← HQ.out]
          have hqz2 : (quoteL s.data.toList).length = q.size := by rw [← HQ.out, size_len]
          have S1 := Lib.hid (fun W h => scan_any ((⟨#[97]⟩ : ByteArray) ++ q ++ ⟨#[46]⟩) W hsz h)
          rw [hd, scan_quote _ (by rw [size_len]; omega), hqz2] at S1
          obtain ⟨ts, hts⟩ : ∃ ts : List Tk, ts = [⟨3, [97], 0, 0, 1⟩, ⟨1, s.data.toList, 0, 1, 1 + q.size⟩, ⟨4, [46], 0, 1 + q.size, 1 + q.size + 1⟩, ⟨0, [], 0, 1 + q.size + 1, 1 + q.size + 1⟩] := ⟨_, rfl⟩
          rw [← hts] at S1
          have HTS := Lib.hid hts
          clear hsz hd hqz2 hts hs1 hq4 UC
          go_wp2_with (first
            | (go_at_call 14; refine (UC2.out _).mono ?_; rintro e w7 ⟨rfl, hB7⟩; have HB7 := Lib.hid hB7; clear hB7)
            | (go_at_call 18; refine (S1.out _ (HLw.out.below HB7.out)).mono ?_; rintro e w8 ⟨hB8, v8, hO8, rfl⟩; have HB8 := Lib.hid hB8; have HO8 := Lib.hid (tokAt_of_own hO8); clear hB8 hO8)
            | (go_at_call 20; go_loud (refine (same_any _ _ ts ts _ (HO8.out.kept ((Below.refl _ _).alloc (Nat.le_refl _) _)) (tokAt_new' _ ts 4 (by rw [HTS.out]; rfl) _ 4 (by rw [HTS.out]; simp [tokRow, tokCells, ba_self])) (by rw [HTS.out]; simp) (by rw [HTS.out]; simp)).mono ?_; rintro e w9 ⟨he, hB9⟩; rw [decide_eq_true rfl] at he; subst he; have HB9 := Lib.hid hB9; clear hB9)))
          go_ret
          exact ⟨rfl, HB6.out.trans ((HB7.out.trans ((HB8.out.trans (((Below.refl _ _).alloc (Nat.le_refl _) _ |>.trans (HB9.out.mono (by simp))).mono HB8.out.size)).mono HB7.out.size)).mono HB6.out.size)⟩
end Go.Proofs.YthcdmnndhjbbfaaDoor.X
