/-
  The walk of gapOnly.
-/
import Derived.Test.YthcdmnndhjbbfaaDoorLexCo
set_option linter.unusedVariables false
set_option linter.unusedSimpArgs false
namespace Go.Proofs.YthcdmnndhjbbfaaDoor.X
open Go.RowKit

theorem extract_list (s : ByteArray) (i j : Nat) : (s.extract i j).data.toList = (s.data.toList.drop i).take (j - i) := by
  simp only [ByteArray.data_extract, Array.toList_extract, List.extract_eq_take_drop]
set_option maxHeartbeats 4000000 in
set_option maxRecDepth 100000 in
theorem gapOnly_any (s : ByteArray) (last : Bool) (w : World) (hs : s.size ≤ 1000000000000) :
    Calls Tryd.prog 24 #[.string s, .bool last] w fun e w' => e = .returned (.bool (gapV last (gapS false s.data.toList))) ∧ w = w' := by
  obtain ⟨R, hR⟩ : ∃ R, R = gapS false (s.data.toList.drop 0) := ⟨_, rfl⟩
  have hR0 : gapS false s.data.toList = R := hR.symm
  rw [hR0]
  have HR := Lib.hid hR
  clear hR hR0
  go_enter Tryd.func24, Tryd.ntmps24
  go_wp2
  go_loopw [5, 6] (fun v i wr => ∃ (r : Bool) (k : Nat), k ≤ s.size ∧ v = .bool r ∧ i = .int .i64 k ∧ Hid (R = gapS r (s.data.toList.drop k)) ∧ w = wr) (fun _ i _ => s.size - (intOf i).toNat)
  case atStart => exact ⟨false, 0, Nat.zero_le _, rfl, rfl, HR, rfl⟩
  case round =>
    obtain ⟨r, k, hk, rfl, rfl, HK, rfl⟩ := hrel
    clear HR
    by_cases hlt : k < s.size
    · have HD := Lib.hid (drop_at s k hlt)
      have hI : (k : Int) < (s.size : Int) := by omega
      cases r with
      | true =>
        by_cases c10 : s[k] = 10
        · have e10 : ((s[k].toNat : Int) != 10) = false := byte_bnf s[k] 10 c10
          have HK2 : Hid (R = gapS false (s.data.toList.drop (k + 1))) := Lib.hid (by rw [HK.out, HD.out]; simp [gapS, c10])
          clear c10
          go_wp2
          go_roundw
          case rel => exact ⟨false, k + 1, by omega, rfl, by go_num, HK2, trivial⟩
          case measure => simp [intOf]; omega
        · have e10 : ((s[k].toNat : Int) != 10) = true := byte_bnt s[k] 10 (by decide) c10
          have HK2 : Hid (R = gapS true (s.data.toList.drop (k + 1))) := Lib.hid (by have hb : (s[k] != 10) = true := bne_iff_ne.2 c10; rw [HK.out, HD.out]; simp only [gapS, hb])
          clear c10
          go_wp2
          go_roundw
          case rel => exact ⟨true, k + 1, by omega, rfl, by go_num, HK2, trivial⟩
          case measure => simp [intOf]; omega
      | false =>
        by_cases c35 : s[k] = 35
        · have e35 : ((s[k].toNat : Int) == 35) = true := byte_eq s[k] 35 c35
          have HK2 : Hid (R = gapS true (s.data.toList.drop (k + 1))) := Lib.hid (by rw [HK.out, HD.out]; simp [gapS, c35])
          clear c35
          go_wp2
          go_roundw
          case rel => exact ⟨true, k + 1, by omega, rfl, by go_num, HK2, trivial⟩
          case measure => simp [intOf]; omega
        · have n35 : ((s[k].toNat : Int) == 35) = false := byte_ne s[k] 35 (by decide) c35
          cases hb : blankB s[k] with
          | true =>
            have HK2 : Hid (R = gapS false (s.data.toList.drop (k + 1))) := Lib.hid (by rw [HK.out, HD.out]; simp [gapS, c35, hb])
            simp only [blankB, Bool.or_eq_true, beq_iff_eq] at hb
            have hb3 : s[k] = 32 ∨ (¬ s[k] = 32 ∧ s[k] = 9) ∨ (¬ s[k] = 32 ∧ ¬ s[k] = 9 ∧ s[k] = 10) ∨ (¬ s[k] = 32 ∧ ¬ s[k] = 9 ∧ ¬ s[k] = 10 ∧ s[k] = 13) := by
              rcases hb with ((h | h) | h) | h <;> simp [h]
            clear hb c35
            rcases hb3 with h | ⟨h1, h⟩ | ⟨h1, h2, h⟩ | ⟨h1, h2, h3, h⟩
            · have b32 : ((s[k].toNat : Int) != 32) = false := byte_bnf s[k] 32 h
              clear h
              go_wp2
              go_roundw
              case rel => exact ⟨false, k + 1, by omega, rfl, by go_num, HK2, trivial⟩
              case measure => simp [intOf]; omega
            · have b32 : ((s[k].toNat : Int) != 32) = true := byte_bnt s[k] 32 (by decide) h1
              have b9 : ((s[k].toNat : Int) != 9) = false := byte_bnf s[k] 9 h
              clear h h1
              go_wp2
              go_roundw
              case rel => exact ⟨false, k + 1, by omega, rfl, by go_num, HK2, trivial⟩
              case measure => simp [intOf]; omega
            · have b32 : ((s[k].toNat : Int) != 32) = true := byte_bnt s[k] 32 (by decide) h1
              have b9 : ((s[k].toNat : Int) != 9) = true := byte_bnt s[k] 9 (by decide) h2
              have b10 : ((s[k].toNat : Int) != 10) = false := byte_bnf s[k] 10 h
              clear h h1 h2
              go_wp2
              go_roundw
              case rel => exact ⟨false, k + 1, by omega, rfl, by go_num, HK2, trivial⟩
              case measure => simp [intOf]; omega
            · have b32 : ((s[k].toNat : Int) != 32) = true := byte_bnt s[k] 32 (by decide) h1
              have b9 : ((s[k].toNat : Int) != 9) = true := byte_bnt s[k] 9 (by decide) h2
              have b10 : ((s[k].toNat : Int) != 10) = true := byte_bnt s[k] 10 (by decide) h3
              have b13 : ((s[k].toNat : Int) != 13) = false := byte_bnf s[k] 13 h
              clear h h1 h2 h3
              go_wp2
              go_roundw
              case rel => exact ⟨false, k + 1, by omega, rfl, by go_num, HK2, trivial⟩
              case measure => simp [intOf]; omega
          | false =>
            have HK2 : Hid (gapV last R = false) := Lib.hid (by rw [HK.out, HD.out]; simp [gapS, c35, hb, gapV])
            simp only [blankB, Bool.or_eq_false_iff, beq_eq_false_iff_ne] at hb
            obtain ⟨⟨⟨h1, h2⟩, h3⟩, h4⟩ := hb
            have b32 : ((s[k].toNat : Int) != 32) = true := byte_bnt s[k] 32 (by decide) h1
            have b9 : ((s[k].toNat : Int) != 9) = true := byte_bnt s[k] 9 (by decide) h2
            have b10 : ((s[k].toNat : Int) != 10) = true := byte_bnt s[k] 10 (by decide) h3
            have b13 : ((s[k].toNat : Int) != 13) = true := byte_bnt s[k] 13 (by decide) h4
            clear h1 h2 h3 h4 c35
            go_wp2
            try rw [Exit.noGoto_ret]
            go_ret
            exact ⟨by rw [HK2.out]; rfl, rfl⟩
    · have hI : ¬ ((k : Int) < (s.size : Int)) := by omega
      have HK2 : Hid (R = some r) := Lib.hid (by rw [HK.out, drop_end s k (by omega)]; cases r <;> rfl)
      cases r with
      | true =>
        have HV : Hid (gapV last R = last) := Lib.hid (by rw [HK2.out]; rfl)
        go_wp2
        all_goals (try go_ret)
        all_goals exact ⟨by rw [HV.out]; rfl, rfl⟩
      | false =>
        have HV : Hid (gapV last R = true) := Lib.hid (by rw [HK2.out]; rfl)
        go_wp2
        go_ret
        exact ⟨by rw [HV.out]; rfl, rfl⟩
end Go.Proofs.YthcdmnndhjbbfaaDoor.X
