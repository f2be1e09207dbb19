/-
  The walk of the reference's Gap.
-/
import Derived.Test.YthcdmnndhjbbfaaDoorLexU
set_option linter.unusedVariables false
set_option linter.unusedSimpArgs false
namespace Go.Proofs.YthcdmnndhjbbfaaDoor.X
open Go.RowKit
set_option maxHeartbeats 4000000 in
set_option maxRecDepth 100000 in
theorem refGap_any (s : ByteArray) (i : Nat) (w : World) (hs : s.size ≤ 1000000000000) (hi : i ≤ s.size) :
    Calls Tryd.prog 30 #[.string s, .int .i64 i] w fun e w' => e = .returned (.int .i64 ((i + gapN false (s.data.toList.drop i) : Nat) : Int)) ∧ w = w' := by
  obtain ⟨E, hE⟩ : ∃ E, E = i + gapN false (s.data.toList.drop i) := ⟨_, rfl⟩
  rw [← hE]
  have HE := Lib.hid hE
  clear hE
  go_enter Tryd.func30, Tryd.ntmps30
  go_wp2
  go_loopw [1] (fun v w' => ∃ k : Nat, k ≤ s.size ∧ v = .int .i64 k ∧ Hid (E = k + gapN false (s.data.toList.drop k)) ∧ w = w') (fun v _ => s.size - (intOf v).toNat)
  case atStart => exact ⟨i, hi, rfl, HE, rfl⟩
  case round =>
    obtain ⟨k, hk, rfl, HK, rfl⟩ := hrel
    clear HE hi
    by_cases hlt : k < s.size
    · have HD := Lib.hid (drop_at s k hlt)
      have hI : (k : Int) < (s.size : Int) := by omega
      by_cases c35 : s[k] = 35
      · have e35 : ((s[k].toNat : Int) == 35) = true := byte_eq s[k] 35 c35
        have HK2 : Hid (E = k + gapN true (s.data.toList.drop k)) := Lib.hid (by
          rw [HK.out, HD.out, c35]; simp [gapN, blankB])
        have HC := Lib.hid c35
        clear c35
        go_wp2
        go_loopw [1] (fun v w' => ∃ j : Nat, k ≤ j ∧ j ≤ s.size ∧ v = .int .i64 j ∧ Hid (E = j + gapN true (s.data.toList.drop j)) ∧ w = w') (fun v _ => s.size - (intOf v).toNat)
        case atStart => exact ⟨k, Nat.le_refl _, hk, rfl, HK2, rfl⟩
        case round =>
          obtain ⟨j, hkj, hj, rfl, HJ, rfl⟩ := hrel
          by_cases hlj : j < s.size
          · have HDj := Lib.hid (drop_at s j hlj)
            have hIj : (j : Int) < (s.size : Int) := by omega
            by_cases c10 : s[j] = 10
            · have e10 : ((s[j].toNat : Int) != 10) = false := byte_bnf s[j] 10 c10
              have hjk : k < j := by
                apply Classical.byContradiction; intro h
                obtain rfl : j = k := by omega
                have := HC.out; rw [c10] at this; exact absurd this (by decide)
              have HN : Hid (E = j + gapN false (s.data.toList.drop j)) := Lib.hid (by rw [HJ.out, HDj.out, c10]; simp [gapN, blankB])
              clear c10
              go_wp2
              go_roundw
              case rel => exact ⟨j, hj, rfl, HN, trivial⟩
              case measure => simp [intOf]; omega
            · have n10 : ((s[j].toNat : Int) != 10) = true := byte_bnt s[j] 10 (by decide) c10
              have HN : Hid (E = (j + 1) + gapN true (s.data.toList.drop (j + 1))) := Lib.hid (by rw [HJ.out, HDj.out]; simp only [gapN, if_neg c10]; omega)
              clear c10
              go_wp2
              go_roundw
              case rel => exact ⟨j + 1, by omega, by omega, by go_num, HN, trivial⟩
              case measure => simp [intOf]; omega
          · have hIj : ¬ ((j : Int) < (s.size : Int)) := by omega
            have HN : Hid (E = j + gapN false (s.data.toList.drop j)) := Lib.hid (by rw [HJ.out, drop_end s j (by omega)]; simp [gapN])
            go_wp2
            go_roundw
            case rel => exact ⟨j, hj, rfl, HN, trivial⟩
            case measure => simp [intOf]; omega
      · have n35 : ((s[k].toNat : Int) == 35) = false := byte_ne s[k] 35 (by decide) c35
        by_cases hb : blankB s[k] = true
        · have hb2 := hb
          simp only [blankB, Bool.or_eq_true, beq_iff_eq] at hb2
          have HN : Hid (E = (k + 1) + gapN false (s.data.toList.drop (k + 1))) := Lib.hid (by rw [HK.out, HD.out]; simp only [gapN, hb, if_true]; omega)
          clear hb
          have hb3 : s[k] = 32 ∨ (¬ s[k] = 32 ∧ s[k] = 9) ∨ (¬ s[k] = 32 ∧ ¬ s[k] = 9 ∧ s[k] = 10) ∨ (¬ s[k] = 32 ∧ ¬ s[k] = 9 ∧ ¬ s[k] = 10 ∧ s[k] = 13) := by
            rcases hb2 with ((h | h) | h) | h <;> simp [h]
          clear hb2 c35
          rcases hb3 with h | ⟨h1, h⟩ | ⟨h1, h2, h⟩ | ⟨h1, h2, h3, h⟩
          · have e32 : ((s[k].toNat : Int) == 32) = true := byte_eq s[k] 32 h
            clear h
            go_wp2
            go_roundw
            case rel => exact ⟨k + 1, by omega, by go_num, HN, trivial⟩
            case measure => simp [intOf]; omega
          · have n32 : ((s[k].toNat : Int) == 32) = false := byte_ne s[k] 32 (by decide) (by assumption)
            have e9 : ((s[k].toNat : Int) == 9) = true := byte_eq s[k] 9 h
            clear h h1
            go_wp2
            go_roundw
            case rel => exact ⟨k + 1, by omega, by go_num, HN, trivial⟩
            case measure => simp [intOf]; omega
          · have n32 : ((s[k].toNat : Int) == 32) = false := byte_ne s[k] 32 (by decide) (by assumption)
            have n9 : ((s[k].toNat : Int) == 9) = false := byte_ne s[k] 9 (by decide) (by assumption)
            have e10 : ((s[k].toNat : Int) == 10) = true := byte_eq s[k] 10 h
            clear h h1 h2
            go_wp2
            go_roundw
            case rel => exact ⟨k + 1, by omega, by go_num, HN, trivial⟩
            case measure => simp [intOf]; omega
          · have n32 : ((s[k].toNat : Int) == 32) = false := byte_ne s[k] 32 (by decide) (by assumption)
            have n9 : ((s[k].toNat : Int) == 9) = false := byte_ne s[k] 9 (by decide) (by assumption)
            have n10 : ((s[k].toNat : Int) == 10) = false := byte_ne s[k] 10 (by decide) (by assumption)
            have e13 : ((s[k].toNat : Int) == 13) = true := byte_eq s[k] 13 h
            clear h h1 h2 h3
            go_wp2
            go_roundw
            case rel => exact ⟨k + 1, by omega, by go_num, HN, trivial⟩
            case measure => simp [intOf]; omega
        · have hEk : Hid (E = k) := Lib.hid (by rw [HK.out, HD.out]; simp only [gapN, if_neg hb, if_neg c35]; omega)
          have hb0 : blankB s[k] = false := by simpa using hb
          simp only [blankB, Bool.or_eq_false_iff, beq_eq_false_iff_ne] at hb0
          obtain ⟨⟨⟨h1, h2⟩, h3⟩, h4⟩ := hb0
          have n32 : ((s[k].toNat : Int) == 32) = false := byte_ne s[k] 32 (by decide) h1
          have n9 : ((s[k].toNat : Int) == 9) = false := byte_ne s[k] 9 (by decide) h2
          have n10 : ((s[k].toNat : Int) == 10) = false := byte_ne s[k] 10 (by decide) h3
          have n13 : ((s[k].toNat : Int) == 13) = false := byte_ne s[k] 13 (by decide) h4
          clear hb h1 h2 h3 h4 c35
          go_wp2
          go_ret
          exact ⟨by rw [hEk.out]; rfl, rfl⟩
    · have hI : ¬ ((k : Int) < (s.size : Int)) := by omega
      have hEk : Hid (E = k) := Lib.hid (by rw [HK.out, drop_end s k (by omega)]; simp [gapN])
      go_wp2
      go_ret
      exact ⟨by rw [hEk.out]; rfl, rfl⟩

end Go.Proofs.YthcdmnndhjbbfaaDoor.X
