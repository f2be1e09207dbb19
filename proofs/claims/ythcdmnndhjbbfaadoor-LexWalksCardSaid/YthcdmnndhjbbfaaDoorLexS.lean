/-
  The walks of skip, digit, wordly, hex.
-/
import Derived.Test.YthcdmnndhjbbfaaDoorLexL
import Derived.Test.YthcdmnndhjbbfaaDoorProg
import Derived.WalkKit
import Derived.KernelRfl
import Derived.Deep.Draws
import Derived.Deep.LoopGhost
import Derived.Deep.QuietTactic
import Derived.BigQuiet
import Derived.BigRegion
import Derived.Outline
import Derived.LoopN
import Derived.WalkSpells
import Derived.WalkLawsBesides
import Derived.Lib.Hide
set_option linter.unusedVariables false
set_option linter.unusedSimpArgs false
namespace Go.Proofs.YthcdmnndhjbbfaaDoor.X
open Go.RowKit
theorem u8_eq (x : UInt8) (n : Nat) (h : n < 256) : ((x.toNat : Int) = (n : Int)) ↔ x = n.toUInt8 := by
  constructor
  · intro e
    have : x.toNat = n := by omega
    apply UInt8.toNat_inj.1
    rw [this]; simp; omega
  · rintro rfl; simp; omega
theorem drop_at (s : ByteArray) (k : Nat) (h : k < s.size) : s.data.toList.drop k = s[k] :: s.data.toList.drop (k + 1) := by
  rw [List.drop_eq_getElem_cons (by simpa using h)]; rfl
theorem drop_end (s : ByteArray) (k : Nat) (h : s.size ≤ k) : s.data.toList.drop k = [] := List.drop_of_length_le (by simpa using h)

theorem byte_eq (x : UInt8) (n : Nat) (h : x = n.toUInt8) (hn : n < 256 := by decide) : ((x.toNat : Int) == (n : Int)) = true := by
  simpa using (u8_eq x n hn).2 h
theorem byte_ne (x : UInt8) (n : Nat) (hn : n < 256) (h : ¬ x = n.toUInt8) : ((x.toNat : Int) == (n : Int)) = false := by
  rw [beq_eq_false_iff_ne]; exact fun e => h ((u8_eq x n hn).1 e)
theorem byte_bnf (x : UInt8) (n : Nat) (h : x = n.toUInt8) (hn : n < 256 := by decide) : ((x.toNat : Int) != (n : Int)) = false := by rw [bne, byte_eq x n h hn]; rfl
theorem byte_bnt (x : UInt8) (n : Nat) (hn : n < 256) (h : ¬ x = n.toUInt8) : ((x.toNat : Int) != (n : Int)) = true := by rw [bne, byte_ne x n hn h]; rfl

set_option maxHeartbeats 4000000 in
set_option maxRecDepth 100000 in
theorem skip_any (s : ByteArray) (i : Nat) (w : World) (hs : s.size ≤ 1000000000000) (hi : i ≤ s.size) :
    Calls Tryd.prog 34 #[.string s, .int .i64 i] w fun e w' => e = .returned (.int .i64 ((i + gapN false (s.data.toList.drop i) : Nat) : Int)) ∧ w = w' := by
  obtain ⟨E, hE⟩ : ∃ E, E = i + gapN false (s.data.toList.drop i) := ⟨_, rfl⟩
  rw [← hE]
  have HE := Lib.hid hE
  clear hE
  go_enter Tryd.func34, Tryd.ntmps34
  go_wp2
  go_step3
  go_wp2
  go_step3
  go_wp2
  go_loopg [1] (s.size - i) (fun g v w' => ∃ k : Nat, k ≤ s.size ∧ Hid (g = s.size - k) ∧ v = .int .i64 k ∧ Hid (E = k + gapN false (s.data.toList.drop k)) ∧ w = w')
  case atStart => exact ⟨i, hi, Lib.hid rfl, rfl, HE, rfl⟩
  case round =>
    obtain ⟨k, hk, HG, rfl, HK, rfl⟩ := hrel
    clear HE hi
    by_cases hlt : k < s.size
    · have HD := Lib.hid (drop_at s k hlt)
      by_cases hb : blankB s[k] = true
      · have hb2 := hb
        simp only [blankB, Bool.or_eq_true, beq_iff_eq] at hb2
        have HN : Hid (E = (k + 1) + gapN false (s.data.toList.drop (k + 1))) := Lib.hid (by rw [HK.out, HD.out]; simp only [gapN, hb, if_true]; omega)
        clear hb
        have hb3 : s[k] = 32 ∨ (¬ s[k] = 32 ∧ s[k] = 9) ∨ (¬ s[k] = 32 ∧ ¬ s[k] = 9 ∧ s[k] = 10) ∨ (¬ s[k] = 32 ∧ ¬ s[k] = 9 ∧ ¬ s[k] = 10 ∧ s[k] = 13) := by
          rcases hb2 with ((h | h) | h) | h <;> simp [h]
        clear hb2
        rcases hb3 with h | ⟨h1, h⟩ | ⟨h1, h2, h⟩ | ⟨h1, h2, h3, h⟩
        · have e32 : ((s[k].toNat : Int) == 32) = true := byte_eq s[k] 32 h
          clear h
          go_wp2
          go_roundg (s.size - (k + 1))
          case rel => exact ⟨k + 1, by omega, Lib.hid rfl, by go_num, HN, rfl⟩
          case measure => have := HG.out; omega
        · have n32 : ((s[k].toNat : Int) == 32) = false := byte_ne s[k] 32 (by decide) (by assumption)
          have e9 : ((s[k].toNat : Int) == 9) = true := byte_eq s[k] 9 h
          clear h h1
          go_wp2
          go_roundg (s.size - (k + 1))
          case rel => exact ⟨k + 1, by omega, Lib.hid rfl, by go_num, HN, rfl⟩
          case measure => have := HG.out; omega
        · have n32 : ((s[k].toNat : Int) == 32) = false := byte_ne s[k] 32 (by decide) (by assumption)
          have n9 : ((s[k].toNat : Int) == 9) = false := byte_ne s[k] 9 (by decide) (by assumption)
          have e10 : ((s[k].toNat : Int) == 10) = true := byte_eq s[k] 10 h
          clear h h1 h2
          go_wp2
          go_roundg (s.size - (k + 1))
          case rel => exact ⟨k + 1, by omega, Lib.hid rfl, by go_num, HN, rfl⟩
          case measure => have := HG.out; omega
        · have n32 : ((s[k].toNat : Int) == 32) = false := byte_ne s[k] 32 (by decide) (by assumption)
          have n9 : ((s[k].toNat : Int) == 9) = false := byte_ne s[k] 9 (by decide) (by assumption)
          have n10 : ((s[k].toNat : Int) == 10) = false := byte_ne s[k] 10 (by decide) (by assumption)
          have e13 : ((s[k].toNat : Int) == 13) = true := byte_eq s[k] 13 h
          clear h h1 h2 h3
          go_wp2
          go_roundg (s.size - (k + 1))
          case rel => exact ⟨k + 1, by omega, Lib.hid rfl, by go_num, HN, rfl⟩
          case measure => have := HG.out; omega
      · have hb2 := hb
        simp only [blankB, Bool.or_eq_true, beq_iff_eq, not_or] at hb2
        obtain ⟨⟨⟨h1, h2⟩, h3⟩, h4⟩ := hb2
        have hbf : blankB s[k] = false := by simpa using hb
        have n32 : ((s[k].toNat : Int) == 32) = false := byte_ne s[k] 32 (by decide) (by assumption)
        have n9 : ((s[k].toNat : Int) == 9) = false := byte_ne s[k] 9 (by decide) (by assumption)
        have n10 : ((s[k].toNat : Int) == 10) = false := byte_ne s[k] 10 (by decide) (by assumption)
        have n13 : ((s[k].toNat : Int) == 13) = false := byte_ne s[k] 13 (by decide) (by assumption)
        by_cases h : s[k] = 35
        · have HN : Hid (E = (k + 1) + gapN true (s.data.toList.drop (k + 1))) := Lib.hid (by rw [HK.out, HD.out, gapN, if_neg (by simp [hbf]), if_pos h]; omega)
          have e35 : ((s[k].toNat : Int) == 35) = true := byte_eq s[k] 35 h
          have n10 : ((s[k].toNat : Int) != 10) = true := by rw [bne, n10]; rfl
          clear hb hbf h1 h2 h3 h4 h
          go_wp2
          go_loopg [1] (s.size - k) (fun g v w' => ∃ j : Nat, k ≤ j ∧ j ≤ s.size ∧ Hid (g = s.size - j) ∧ v = .int .i64 j ∧ Hid (j = k ∨ (k < j ∧ E = j + gapN true (s.data.toList.drop j))) ∧ w = w')
          case atStart => exact ⟨k, Nat.le_refl _, hk, Lib.hid rfl, rfl, Lib.hid (.inl rfl), rfl⟩
          case round =>
            obtain ⟨j, hkj, hj, HGJ, rfl, HJ, rfl⟩ := hrel
            by_cases hjs : j < s.size
            · have HDJ := Lib.hid (drop_at s j hjs)
              by_cases hjk : j = k
              · subst hjk
                go_wp2
                go_roundg (s.size - (j + 1))
                case rel => exact ⟨j + 1, by omega, by omega, Lib.hid rfl, by go_num, Lib.hid (.inr ⟨by omega, HN.out⟩), rfl⟩
                case measure => have := HGJ.out; omega
              · have HJ2 : Hid (E = j + gapN true (s.data.toList.drop j)) := Lib.hid (by rcases HJ.out with e | ⟨_, e⟩; exact absurd e hjk; exact e)
                have hkj2 : k < j := by omega
                clear HJ hjk
                by_cases h : s[j] = 10
                · have e10 : ((s[j].toNat : Int) != 10) = false := byte_bnf s[j] 10 h
                  have HE2 : Hid (E = j + gapN false (s.data.toList.drop j)) := Lib.hid (by rw [HJ2.out, HDJ.out, gapN, if_pos h, gapN, if_pos (by simp [blankB, h])])
                  clear h
                  go_wp2
                  go_roundg (s.size - j)
                  case rel => exact ⟨j, by omega, Lib.hid rfl, rfl, HE2, rfl⟩
                  case measure => have := HG.out; omega
                · have e10 : ((s[j].toNat : Int) != 10) = true := byte_bnt s[j] 10 (by decide) h
                  have HE2 : Hid (E = (j + 1) + gapN true (s.data.toList.drop (j + 1))) := Lib.hid (by rw [HJ2.out, HDJ.out, gapN, if_neg h]; omega)
                  clear h
                  go_wp2
                  go_roundg (s.size - (j + 1))
                  case rel => exact ⟨j + 1, by omega, by omega, Lib.hid rfl, by go_num, Lib.hid (.inr ⟨by omega, HE2.out⟩), rfl⟩
                  case measure => have := HGJ.out; omega
            · have HE2 : Hid (E = j + gapN false (s.data.toList.drop j)) := Lib.hid (by rcases HJ.out with e | ⟨_, e⟩; omega; rw [e, drop_end s j (by omega)]; rfl)
              have hkj2 : k < j := by omega
              go_wp2
              go_roundg (s.size - j)
              case rel => exact ⟨j, by omega, Lib.hid rfl, rfl, HE2, rfl⟩
              case measure => have := HG.out; omega
        · have HN : Hid (E = k) := Lib.hid (by rw [HK.out, HD.out]; simp only [gapN, hbf, h, Bool.false_eq_true, if_false]; omega)
          have n35 : ((s[k].toNat : Int) == 35) = false := byte_ne s[k] 35 (by decide) h
          clear hb hbf h1 h2 h3 h4 h
          go_wp2
          rw [Exit.noGoto_ret]
          go_ret
          exact ⟨by rw [HN.out]; rfl, rfl⟩
    · have hkE : Hid (E = k) := Lib.hid (by rw [HK.out, drop_end s k (by omega)]; rfl)
      go_wp2
      rw [Exit.noGoto_ret]
      go_ret
      exact ⟨by rw [hkE.out]; rfl, rfl⟩

end Go.Proofs.YthcdmnndhjbbfaaDoor.X
