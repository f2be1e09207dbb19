/-
  The walks of skip, digit, wordly, hex.
  The walks of digit, wordly, hex: the program's and the document's.
  The walk of strconv.ParseUint at two digits of base sixteen.
  The walk of escape.
-/
import Derived.Test.YtfiljgkcipnghaaGreatDoorLexL
import Derived.Test.YtfiljgkcipnghaaGreatDoorProg
import Derived.WalkKit
import Derived.KernelRfl
import Derived.Deep.Draws
import Derived.Deep.LoopGhost
import Derived.Deep.QuietTactic
import Derived.BigQuiet
import Derived.BigRegion
import Derived.Outline
import Derived.LoopN
import Derived.WalkSpells
import Derived.WalkLawsBesides
import Derived.Lib.Hide
import Derived.Lib.ConvBytes
import Derived.Lib.AtoiErrMem
import Derived.Below
import Derived.Deep.RegionHeld3
set_option linter.unusedVariables false
set_option linter.unusedSimpArgs false
namespace Go.Proofs.YtfiljgkcipnghaaGreatDoor.X
open Go.RowKit
theorem u8_eq (x : UInt8) (n : Nat) (h : n < 256) : ((x.toNat : Int) = (n : Int)) ↔ x = n.toUInt8 := by
  constructor
  · intro e
    have : x.toNat = n := by omega
    apply UInt8.toNat_inj.1
    rw [this]; simp; omega
  · rintro rfl; simp; omega
theorem drop_at (s : ByteArray) (k : Nat) (h : k < s.size) : s.data.toList.drop k = s[k] :: s.data.toList.drop (k + 1) := by
  rw [List.drop_eq_getElem_cons (by simpa using h)]; rfl
theorem drop_end (s : ByteArray) (k : Nat) (h : s.size ≤ k) : s.data.toList.drop k = [] := List.drop_of_length_le (by simpa using h)

theorem byte_eq (x : UInt8) (n : Nat) (h : x = n.toUInt8) (hn : n < 256 := by decide) : ((x.toNat : Int) == (n : Int)) = true := by
  simpa using (u8_eq x n hn).2 h
theorem byte_ne (x : UInt8) (n : Nat) (hn : n < 256) (h : ¬ x = n.toUInt8) : ((x.toNat : Int) == (n : Int)) = false := by
  rw [beq_eq_false_iff_ne]; exact fun e => h ((u8_eq x n hn).1 e)
theorem byte_bnf (x : UInt8) (n : Nat) (h : x = n.toUInt8) (hn : n < 256 := by decide) : ((x.toNat : Int) != (n : Int)) = false := by rw [bne, byte_eq x n h hn]; rfl
theorem byte_bnt (x : UInt8) (n : Nat) (hn : n < 256) (h : ¬ x = n.toUInt8) : ((x.toNat : Int) != (n : Int)) = true := by rw [bne, byte_ne x n hn h]; rfl

set_option maxHeartbeats 4000000 in
set_option maxRecDepth 100000 in
theorem skip_any (s : ByteArray) (i : Nat) (w : World) (hs : s.size ≤ 1000000000000) (hi : i ≤ s.size) :
    Calls Tryz.prog 66 #[.string s, .int .i64 i] w fun e w' => e = .returned (.int .i64 ((i + gapN false (s.data.toList.drop i) : Nat) : Int)) ∧ w = w' := by
  obtain ⟨E, hE⟩ : ∃ E, E = i + gapN false (s.data.toList.drop i) := ⟨_, rfl⟩
  rw [← hE]
  have HE := Lib.hid hE
  clear hE
  go_enter Tryz.func66, Tryz.ntmps66
  go_wp2
  go_step3
  go_wp2
  go_step3
  go_wp2
  go_loopg [1] (s.size - i) (fun g v w' => ∃ k : Nat, k ≤ s.size ∧ Hid (g = s.size - k) ∧ v = .int .i64 k ∧ Hid (E = k + gapN false (s.data.toList.drop k)) ∧ w = w')
  case atStart => exact ⟨i, hi, Lib.hid rfl, rfl, HE, rfl⟩
  case round =>
    obtain ⟨k, hk, HG, rfl, HK, rfl⟩ := hrel
    clear HE hi
    by_cases hlt : k < s.size
    · have HD := Lib.hid (drop_at s k hlt)
      by_cases hb : blankB s[k] = true
      · have hb2 := hb
        simp only [blankB, Bool.or_eq_true, beq_iff_eq] at hb2
        have HN : Hid (E = (k + 1) + gapN false (s.data.toList.drop (k + 1))) := Lib.hid (by rw [HK.out, HD.out]; simp only [gapN, hb, if_true]; omega)
        clear hb
        have hb3 : s[k] = 32 ∨ (¬ s[k] = 32 ∧ s[k] = 9) ∨ (¬ s[k] = 32 ∧ ¬ s[k] = 9 ∧ s[k] = 10) ∨ (¬ s[k] = 32 ∧ ¬ s[k] = 9 ∧ ¬ s[k] = 10 ∧ s[k] = 13) := by
          rcases hb2 with ((h | h) | h) | h <;> simp [h]
        clear hb2
        rcases hb3 with h | ⟨h1, h⟩ | ⟨h1, h2, h⟩ | ⟨h1, h2, h3, h⟩
        · have e32 : ((s[k].toNat : Int) == 32) = true := byte_eq s[k] 32 h
          clear h
          go_wp2
          go_roundg (s.size - (k + 1))
          case rel => exact ⟨k + 1, by omega, Lib.hid rfl, by go_num, HN, rfl⟩
          case measure => have := HG.out; omega
        · have n32 : ((s[k].toNat : Int) == 32) = false := byte_ne s[k] 32 (by decide) (by assumption)
          have e9 : ((s[k].toNat : Int) == 9) = true := byte_eq s[k] 9 h
          clear h h1
          go_wp2
          go_roundg (s.size - (k + 1))
          case rel => exact ⟨k + 1, by omega, Lib.hid rfl, by go_num, HN, rfl⟩
          case measure => have := HG.out; omega
        · have n32 : ((s[k].toNat : Int) == 32) = false := byte_ne s[k] 32 (by decide) (by assumption)
          have n9 : ((s[k].toNat : Int) == 9) = false := byte_ne s[k] 9 (by decide) (by assumption)
          have e10 : ((s[k].toNat : Int) == 10) = true := byte_eq s[k] 10 h
          clear h h1 h2
          go_wp2
          go_roundg (s.size - (k + 1))
          case rel => exact ⟨k + 1, by omega, Lib.hid rfl, by go_num, HN, rfl⟩
          case measure => have := HG.out; omega
        · have n32 : ((s[k].toNat : Int) == 32) = false := byte_ne s[k] 32 (by decide) (by assumption)
          have n9 : ((s[k].toNat : Int) == 9) = false := byte_ne s[k] 9 (by decide) (by assumption)
          have n10 : ((s[k].toNat : Int) == 10) = false := byte_ne s[k] 10 (by decide) (by assumption)
          have e13 : ((s[k].toNat : Int) == 13) = true := byte_eq s[k] 13 h
          clear h h1 h2 h3
          go_wp2
          go_roundg (s.size - (k + 1))
          case rel => exact ⟨k + 1, by omega, Lib.hid rfl, by go_num, HN, rfl⟩
          case measure => have := HG.out; omega
      · have hb2 := hb
        simp only [blankB, Bool.or_eq_true, beq_iff_eq, not_or] at hb2
        obtain ⟨⟨⟨h1, h2⟩, h3⟩, h4⟩ := hb2
        have hbf : blankB s[k] = false := by simpa using hb
        have n32 : ((s[k].toNat : Int) == 32) = false := byte_ne s[k] 32 (by decide) (by assumption)
        have n9 : ((s[k].toNat : Int) == 9) = false := byte_ne s[k] 9 (by decide) (by assumption)
        have n10 : ((s[k].toNat : Int) == 10) = false := byte_ne s[k] 10 (by decide) (by assumption)
        have n13 : ((s[k].toNat : Int) == 13) = false := byte_ne s[k] 13 (by decide) (by assumption)
        by_cases h : s[k] = 35
        · have HN : Hid (E = (k + 1) + gapN true (s.data.toList.drop (k + 1))) := Lib.hid (by rw [HK.out, HD.out, gapN, if_neg (by simp [hbf]), if_pos h]; omega)
          have e35 : ((s[k].toNat : Int) == 35) = true := byte_eq s[k] 35 h
          have n10 : ((s[k].toNat : Int) != 10) = true := by rw [bne, n10]; rfl
          clear hb hbf h1 h2 h3 h4 h
          go_wp2
          go_loopg [1] (s.size - k) (fun g v w' => ∃ j : Nat, k ≤ j ∧ j ≤ s.size ∧ Hid (g = s.size - j) ∧ v = .int .i64 j ∧ Hid (j = k ∨ (k < j ∧ E = j + gapN true (s.data.toList.drop j))) ∧ w = w')
          case atStart => exact ⟨k, Nat.le_refl _, hk, Lib.hid rfl, rfl, Lib.hid (.inl rfl), rfl⟩
          case round =>
            obtain ⟨j, hkj, hj, HGJ, rfl, HJ, rfl⟩ := hrel
            by_cases hjs : j < s.size
            · have HDJ := Lib.hid (drop_at s j hjs)
              by_cases hjk : j = k
              · subst hjk
                go_wp2
                go_roundg (s.size - (j + 1))
                case rel => exact ⟨j + 1, by omega, by omega, Lib.hid rfl, by go_num, Lib.hid (.inr ⟨by omega, HN.out⟩), rfl⟩
                case measure => have := HGJ.out; omega
              · have HJ2 : Hid (E = j + gapN true (s.data.toList.drop j)) := Lib.hid (by rcases HJ.out with e | ⟨_, e⟩; exact absurd e hjk; exact e)
                have hkj2 : k < j := by omega
                clear HJ hjk
                by_cases h : s[j] = 10
                · have e10 : ((s[j].toNat : Int) != 10) = false := byte_bnf s[j] 10 h
                  have HE2 : Hid (E = j + gapN false (s.data.toList.drop j)) := Lib.hid (by rw [HJ2.out, HDJ.out, gapN, if_pos h, gapN, if_pos (by simp [blankB, h])])
                  clear h
                  go_wp2
                  go_roundg (s.size - j)
                  case rel => exact ⟨j, by omega, Lib.hid rfl, rfl, HE2, rfl⟩
                  case measure => have := HG.out; omega
                · have e10 : ((s[j].toNat : Int) != 10) = true := byte_bnt s[j] 10 (by decide) h
                  have HE2 : Hid (E = (j + 1) + gapN true (s.data.toList.drop (j + 1))) := Lib.hid (by rw [HJ2.out, HDJ.out, gapN, if_neg h]; omega)
                  clear h
                  go_wp2
                  go_roundg (s.size - (j + 1))
                  case rel => exact ⟨j + 1, by omega, by omega, Lib.hid rfl, by go_num, Lib.hid (.inr ⟨by omega, HE2.out⟩), rfl⟩
                  case measure => have := HGJ.out; omega
            · have HE2 : Hid (E = j + gapN false (s.data.toList.drop j)) := Lib.hid (by rcases HJ.out with e | ⟨_, e⟩; omega; rw [e, drop_end s j (by omega)]; rfl)
              have hkj2 : k < j := by omega
              go_wp2
              go_roundg (s.size - j)
              case rel => exact ⟨j, by omega, Lib.hid rfl, rfl, HE2, rfl⟩
              case measure => have := HG.out; omega
        · have HN : Hid (E = k) := Lib.hid (by rw [HK.out, HD.out]; simp only [gapN, hbf, h, Bool.false_eq_true, if_false]; omega)
          have n35 : ((s[k].toNat : Int) == 35) = false := byte_ne s[k] 35 (by decide) h
          clear hb hbf h1 h2 h3 h4 h
          go_wp2
          rw [Exit.noGoto_ret]
          go_ret
          exact ⟨by rw [HN.out]; rfl, rfl⟩
    · have hkE : Hid (E = k) := Lib.hid (by rw [HK.out, drop_end s k (by omega)]; rfl)
      go_wp2
      rw [Exit.noGoto_ret]
      go_ret
      exact ⟨by rw [hkE.out]; rfl, rfl⟩

end Go.Proofs.YtfiljgkcipnghaaGreatDoor.X
set_option linter.unusedVariables false
set_option linter.unusedSimpArgs false
namespace Go.Proofs.YtfiljgkcipnghaaGreatDoor.X
open Go.RowKit
theorem digI (c : UInt8) : digB c = (decide ((48 : Int) ≤ (c.toNat : Int)) && decide ((c.toNat : Int) ≤ 57)) := by
  rw [Bool.eq_iff_iff]; simp only [digB, Bool.and_eq_true, decide_eq_true_eq, UInt8.le_iff_toNat_le]; simp; omega
theorem lowI (c : UInt8) : (97 ≤ c && c ≤ 122) = (decide ((97 : Int) ≤ (c.toNat : Int)) && decide ((c.toNat : Int) ≤ 122)) := by
  rw [Bool.eq_iff_iff]; simp only [Bool.and_eq_true, decide_eq_true_eq, UInt8.le_iff_toNat_le]; simp; omega
theorem uppI (c : UInt8) : (65 ≤ c && c ≤ 90) = (decide ((65 : Int) ≤ (c.toNat : Int)) && decide ((c.toNat : Int) ≤ 90)) := by
  rw [Bool.eq_iff_iff]; simp only [Bool.and_eq_true, decide_eq_true_eq, UInt8.le_iff_toNat_le]; simp; omega
theorem lohI (c : UInt8) : (97 ≤ c && c ≤ 102) = (decide ((97 : Int) ≤ (c.toNat : Int)) && decide ((c.toNat : Int) ≤ 102)) := by
  rw [Bool.eq_iff_iff]; simp only [Bool.and_eq_true, decide_eq_true_eq, UInt8.le_iff_toNat_le]; simp; omega
theorem uphI (c : UInt8) : (65 ≤ c && c ≤ 70) = (decide ((65 : Int) ≤ (c.toNat : Int)) && decide ((c.toNat : Int) ≤ 70)) := by
  rw [Bool.eq_iff_iff]; simp only [Bool.and_eq_true, decide_eq_true_eq, UInt8.le_iff_toNat_le]; simp; omega
theorem u95I (c : UInt8) : (c == 95) = ((c.toNat : Int) == 95) := by
  by_cases h : c = 95
  · subst h; rfl
  · have : ((c.toNat : Int) == 95) = false := byte_ne c 95 (by decide) h
    rw [this]; simpa using h

/-- A range of bytes: both tests decided. -/
theorem rng (x a b : Int) : (decide (a ≤ x) = true ∧ decide (x ≤ b) = true) ∨ (decide (a ≤ x) = false) ∨ (decide (a ≤ x) = true ∧ decide (x ≤ b) = false) := by
  by_cases h1 : a ≤ x <;> by_cases h2 : x ≤ b <;> simp [h1, h2]

set_option maxRecDepth 100000 in
theorem digit_any (c : UInt8) (w : World) : Calls Tryz.prog 91 #[.int .u8 (c.toNat : Int)] w fun e w' => e = .returned (.bool (digB c)) ∧ w = w' := by
  rw [digI]
  rcases rng (c.toNat : Int) 48 57 with ⟨a, b⟩ | a | ⟨a, b⟩
  all_goals
    go_enter Tryz.func91, Tryz.ntmps91
    go_wp2
    go_ret
    exact ⟨by simp [*], rfl⟩
set_option maxRecDepth 100000 in
theorem wordly_any (c : UInt8) (w : World) : Calls Tryz.prog 93 #[.int .u8 (c.toNat : Int)] w fun e w' => e = .returned (.bool (wordB c)) ∧ w = w' := by
  have DC := Lib.hid (fun W => digit_any c W)
  have hw : wordB c = ((decide ((97 : Int) ≤ (c.toNat : Int)) && decide ((c.toNat : Int) ≤ 122)) || ((decide ((65 : Int) ≤ (c.toNat : Int)) && decide ((c.toNat : Int) ≤ 90)) || (digB c || ((c.toNat : Int) == 95)))) := by
    rw [← lowI, ← uppI, ← u95I, wordB]
    cases digB c <;> cases (97 ≤ c && c ≤ 122) <;> cases (65 ≤ c && c ≤ 90) <;> cases (c == 95) <;> rfl
  have HW := Lib.hid hw
  clear hw
  cases hd : digB c with
  | true =>
    rw [hd] at DC HW
    clear hd
    rcases rng (c.toNat : Int) 97 122 with ⟨a, b⟩ | a | ⟨a, b⟩
    all_goals
      rcases rng (c.toNat : Int) 65 90 with ⟨a2, b2⟩ | a2 | ⟨a2, b2⟩
    all_goals
      go_enter Tryz.func93, Tryz.ntmps93
      go_wp2_with (go_at_call 91; refine (DC.out _).mono ?_; rintro e w1 ⟨rfl, rfl⟩)
      go_ret
      exact ⟨by rw [HW.out]; simp [*], rfl⟩
  | false =>
    rw [hd] at DC HW
    clear hd
    rcases rng (c.toNat : Int) 97 122 with ⟨a, b⟩ | a | ⟨a, b⟩
    all_goals
      rcases rng (c.toNat : Int) 65 90 with ⟨a2, b2⟩ | a2 | ⟨a2, b2⟩
    all_goals
      go_enter Tryz.func93, Tryz.ntmps93
      go_wp2_with (go_at_call 91; refine (DC.out _).mono ?_; rintro e w1 ⟨rfl, rfl⟩)
      go_ret
      exact ⟨by rw [HW.out]; simp [*], rfl⟩
set_option maxRecDepth 100000 in
theorem hex_any (c : UInt8) (w : World) : Calls Tryz.prog 121 #[.int .u8 (c.toNat : Int)] w fun e w' => e = .returned (.bool (hexB c)) ∧ w = w' := by
  have DC := Lib.hid (fun W => digit_any c W)
  have hw : hexB c = (digB c || ((decide ((97 : Int) ≤ (c.toNat : Int)) && decide ((c.toNat : Int) ≤ 102)) || (decide ((65 : Int) ≤ (c.toNat : Int)) && decide ((c.toNat : Int) ≤ 70)))) := by
    rw [← lohI, ← uphI, hexB, Bool.or_assoc]
  have HW := Lib.hid hw
  clear hw
  cases hd : digB c
  all_goals
    rw [hd] at DC HW
    clear hd
    rcases rng (c.toNat : Int) 97 102 with ⟨a, b⟩ | a | ⟨a, b⟩
    all_goals
      rcases rng (c.toNat : Int) 65 70 with ⟨a2, b2⟩ | a2 | ⟨a2, b2⟩
    all_goals
      go_enter Tryz.func121, Tryz.ntmps121
      go_wp2_with (go_at_call 91; refine (DC.out _).mono ?_; rintro e w1 ⟨rfl, rfl⟩)
      go_ret
      exact ⟨by rw [HW.out]; simp [*], rfl⟩
set_option maxRecDepth 100000 in
theorem refDigit_any (c : UInt8) (w : World) : Calls Tryz.prog 102 #[.int .u8 (c.toNat : Int)] w fun e w' => e = .returned (.bool (digB c)) ∧ w = w' := by
  rw [digI]
  rcases rng (c.toNat : Int) 48 57 with ⟨a, b⟩ | a | ⟨a, b⟩
  all_goals
    go_enter Tryz.func102, Tryz.ntmps102
    go_wp2
    go_ret
    exact ⟨by simp [*], rfl⟩
set_option maxRecDepth 100000 in
theorem refWord_any (c : UInt8) (w : World) : Calls Tryz.prog 104 #[.int .u8 (c.toNat : Int)] w fun e w' => e = .returned (.bool (wordB c)) ∧ w = w' := by
  have DC := Lib.hid (fun W => refDigit_any c W)
  have hw : wordB c = (digB c || ((decide ((97 : Int) ≤ (c.toNat : Int)) && decide ((c.toNat : Int) ≤ 122)) || ((decide ((65 : Int) ≤ (c.toNat : Int)) && decide ((c.toNat : Int) ≤ 90)) || ((c.toNat : Int) == 95)))) := by
    rw [← lowI, ← uppI, ← u95I, wordB, Bool.or_assoc, Bool.or_assoc]
  have HW := Lib.hid hw
  clear hw
  cases hd : digB c
  all_goals
    rw [hd] at DC HW
    clear hd
    rcases rng (c.toNat : Int) 97 122 with ⟨a, b⟩ | a | ⟨a, b⟩
    all_goals
      rcases rng (c.toNat : Int) 65 90 with ⟨a2, b2⟩ | a2 | ⟨a2, b2⟩
    all_goals
      go_enter Tryz.func104, Tryz.ntmps104
      go_wp2_with (go_at_call 102; refine (DC.out _).mono ?_; rintro e w1 ⟨rfl, rfl⟩)
      go_ret
      exact ⟨by rw [HW.out]; simp [*], rfl⟩
/-- The worth of a digit of base sixteen, or -1. -/
def hexI (c : UInt8) : Int := if digB c then (c.toNat : Int) - 48 else if (97 ≤ c && c ≤ 102) then (c.toNat : Int) - 87 else if (65 ≤ c && c ≤ 70) then (c.toNat : Int) - 55 else -1
set_option maxRecDepth 100000 in
theorem refHex_any (c : UInt8) (w : World) : Calls Tryz.prog 132 #[.int .u8 (c.toNat : Int)] w fun e w' => e = .returned (.int .i64 (hexI c)) ∧ w = w' := by
  have DC := Lib.hid (fun W => refDigit_any c W)
  have hw : hexI c = if digB c then (c.toNat : Int) - 48 else if (decide ((97 : Int) ≤ (c.toNat : Int)) && decide ((c.toNat : Int) ≤ 102)) then (c.toNat : Int) - 87 else if (decide ((65 : Int) ≤ (c.toNat : Int)) && decide ((c.toNat : Int) ≤ 70)) then (c.toNat : Int) - 55 else -1 := by
    rw [hexI, lohI, uphI]
  have HW := Lib.hid hw
  have hd := digI c
  clear hw
  have hc8 := c.toNat_lt
  generalize hx : (c.toNat : Int) = x at *
  have hx0 : 0 ≤ x := by omega
  have hx1 : x ≤ 255 := by omega
  clear hx hc8
  cases hdd : digB c with
  | true =>
    rw [hdd] at DC HW hd
    have hr : 48 ≤ x ∧ x ≤ 57 := by simpa using hd.symm
    obtain ⟨hr1, hr2⟩ := hr
    clear hdd hd
    go_enter Tryz.func132, Tryz.ntmps132
    go_wp2_with (go_at_call 102; refine (DC.out _).mono ?_; rintro e w1 ⟨rfl, rfl⟩)
    go_ret
    exact ⟨by rw [HW.out]; simp, rfl⟩
  | false =>
    rw [hdd] at DC HW
    clear hdd hd
    rcases rng x 97 102 with ⟨a, b⟩ | a | ⟨a, b⟩
    · have hr1 : 97 ≤ x := of_decide_eq_true a
      have hr2 : x ≤ 102 := of_decide_eq_true b
      go_enter Tryz.func132, Tryz.ntmps132
      go_wp2_with (go_at_call 102; refine (DC.out _).mono ?_; rintro e w1 ⟨rfl, rfl⟩)
      go_ret
      exact ⟨by rw [HW.out]; simp [*]; omega, rfl⟩
    all_goals
      rcases rng x 65 70 with ⟨a2, b2⟩ | a2 | ⟨a2, b2⟩
    all_goals
      try have hr1 : 65 ≤ x := of_decide_eq_true a2
      try have hr2 : x ≤ 70 := of_decide_eq_true b2
      go_enter Tryz.func132, Tryz.ntmps132
      go_wp2_with (go_at_call 102; refine (DC.out _).mono ?_; rintro e w1 ⟨rfl, rfl⟩)
      go_ret
      exact ⟨by rw [HW.out]; simp [*] <;> omega, rfl⟩

end Go.Proofs.YtfiljgkcipnghaaGreatDoor.X
set_option linter.unusedVariables false
set_option linter.unusedSimpArgs false
namespace Go.Proofs.YtfiljgkcipnghaaGreatDoor.X
open Go.RowKit
theorem lower_any (c : Int) (r : Int) (w : World) (h : Go.bits .or .u8 c 32 = r) : Calls Tryz.prog 145 #[.int .u8 c] w fun e w' => e = .returned (.int .u8 r) ∧ w = w' := by
  subst h
  go_enter Tryz.func145, Tryz.ntmps145
  go_wp2
  go_ret
  exact ⟨rfl, rfl⟩
theorem hexV_lt (c : UInt8) (h : hexB c = true) : (hexV c).toNat < 16 := by
  have : ∀ n : Fin 256, hexB n.val.toUInt8 = true → (hexV n.val.toUInt8).toNat < 16 := by decide +kernel
  have h2 := this ⟨c.toNat, c.toNat_lt⟩
  simp only [Nat.toUInt8_eq, UInt8.ofNat_toNat] at h2
  exact h2 h
/-- A digit of base sixteen: of which range, what its worth is. -/
theorem hex_class (c : UInt8) (h : hexB c = true) : ((48 : Int) ≤ (c.toNat : Int) ∧ (c.toNat : Int) ≤ 57 ∧ ((hexV c).toNat : Int) = (c.toNat : Int) - 48) ∨ (58 ≤ (c.toNat : Int) ∧ (c.toNat : Int) ≤ 102 ∧ (c.toNat : Int) ≠ 95 ∧ ∃ r : Int, Go.bits .or .u8 (c.toNat : Int) 32 = r ∧ 97 ≤ r ∧ r ≤ 102 ∧ ((hexV c).toNat : Int) = r - 87) := by
  have : ∀ n : Fin 256, hexB n.val.toUInt8 = true → ((48 ≤ n.val ∧ n.val ≤ 57 ∧ (hexV n.val.toUInt8).toNat + 48 = n.val) ∨ (58 ≤ n.val ∧ n.val ≤ 102 ∧ n.val ≠ 95 ∧ Go.bits .or .u8 (n.val : Int) 32 = (((hexV n.val.toUInt8).toNat + 87 : Nat) : Int) ∧ 97 ≤ (hexV n.val.toUInt8).toNat + 87 ∧ (hexV n.val.toUInt8).toNat + 87 ≤ 102)) := by decide +kernel
  have h2 := this ⟨c.toNat, c.toNat_lt⟩
  simp only [Nat.toUInt8_eq, UInt8.ofNat_toNat] at h2
  rcases h2 h with ⟨h3, h4, h5⟩ | ⟨h3, h4, h5, h6, h7, h8⟩
  · exact .inl ⟨by omega, by omega, by omega⟩
  · exact .inr ⟨by omega, by omega, by omega, _, h6, by omega, by omega, by omega⟩

set_option maxHeartbeats 4000000 in
set_option maxRecDepth 100000 in
theorem parseIn (a b : UInt8) (ha : hexB a = true) (hb : hexB b = true) (w : World) :
    Calls Tryz.prog 133 #[.string ⟨#[a, b]⟩, .int .i64 16, .int .i64 8] w fun e w' => e = .returned (.tuple #[.int .u64 (((hexV a).toNat : Int) * 16 + ((hexV b).toNat : Int)), .nilIface]) ∧ Below w.heap.size w w' := by
  have hcv := Lib.run_convert_string_bytes (P := Tryz.prog) w 9 80 5 ⟨#[a, b]⟩ Tryz.underlying9 Tryz.underlying80 Tryz.underlying5
  have hva := hexV_lt a ha
  have hvb := hexV_lt b hb
  have KA := Lib.hid (hex_class a ha)
  have KB := Lib.hid (hex_class b hb)
  have B1 := Lib.hid (Lib.bytesWorld_below w 5 ⟨#[a, b]⟩)
  have ca : (Lib.bytesWorld w 5 ⟨#[a, b]⟩).cell? ⟨w.heap.size, 0, none⟩ = some (.int .u8 (a.toNat : Int)) := Lib.bytesWorld_cell w 5 ⟨#[a, b]⟩ 0 (show 0 < 2 by decide)
  have cb : (Lib.bytesWorld w 5 ⟨#[a, b]⟩).cell? ⟨w.heap.size, 1, none⟩ = some (.int .u8 (b.toNat : Int)) := Lib.bytesWorld_cell w 5 ⟨#[a, b]⟩ 1 (show 1 < 2 by decide)
  obtain ⟨x, hx⟩ : ∃ x : Int, x = ((hexV a).toNat : Int) := ⟨_, rfl⟩
  obtain ⟨y, hy⟩ : ∃ y : Int, y = ((hexV b).toNat : Int) := ⟨_, rfl⟩
  rw [← hx, ← hy]
  have hx0 : 0 ≤ x := by omega
  have hx1 : x ≤ 15 := by omega
  have hy0 : 0 ≤ y := by omega
  have hy1 : y ≤ 15 := by omega
  rw [← hx] at KA
  rw [← hy] at KB
  have CA := Lib.hid ca
  have CB := Lib.hid cb
  clear ha hb hva hvb hx hy ca cb
  have LA := Lib.hid (fun (c r : Int) (W : World) (h : Go.bits .or .u8 c 32 = r) => lower_any c r W h)
  go_enter Tryz.func133, Tryz.ntmps133
  go_wp2
  clear hcv
  generalize Lib.bytesWorld w 5 ⟨#[a, b]⟩ = w1 at *
  go_loop [12, 13, 101] (fun u n i => u = .bool false ∧ ((n = .int .u64 0 ∧ i = .int .i64 0) ∨ (n = .int .u64 x ∧ i = .int .i64 1) ∨ (n = .int .u64 (x * 16 + y) ∧ i = .int .i64 2))) (fun _ _ i => 2 - (intOf i).toNat)
  case atStart => exact ⟨rfl, .inl ⟨rfl, rfl⟩⟩
  case round =>
    rcases hrel with ⟨rfl, ⟨rfl, rfl⟩ | ⟨rfl, rfl⟩ | ⟨rfl, rfl⟩⟩
    · have ca := CA.out
      rcases KA.out with ⟨h1, h2, h3⟩ | ⟨h1, h2, h3, r, h4, h5, h6, h7⟩
      · generalize (a.toNat : Int) = c at *
        obtain rfl : c = x + 48 := by omega
        have n95 : ((x + 48 : Int) == 95) = false := by simp; omega
        clear h3
        go_wp2
        go_round
        case rel => exact ⟨rfl, .inr (.inl ⟨by go_num, rfl⟩)⟩
        case measure => simp [intOf]
      · have n95 : (((a.toNat : Int)) == 95) = false := by simpa using h3
        have h2' : ¬ ((a.toNat : Int) ≤ 57) := by omega
        have L1 := Lib.hid (fun W => LA.out _ r W h4)
        generalize (a.toNat : Int) = c at *
        obtain rfl : r = x + 87 := by omega
        clear h4 h3 h7
        go_wp2_with (go_at_call 145; refine (L1.out _).mono ?_; rintro e w5 ⟨rfl, rfl⟩)
        go_round
        case rel => exact ⟨rfl, .inr (.inl ⟨by go_num, rfl⟩)⟩
        case measure => simp [intOf]
    · have cb := CB.out
      rcases KB.out with ⟨h1, h2, h3⟩ | ⟨h1, h2, h3, r, h4, h5, h6, h7⟩
      · generalize (b.toNat : Int) = c at *
        obtain rfl : c = y + 48 := by omega
        have n95 : ((y + 48 : Int) == 95) = false := by simp; omega
        clear h3
        go_wp2
        go_round
        case rel => exact ⟨rfl, .inr (.inr ⟨by go_num, rfl⟩)⟩
        case measure => simp [intOf]
      · have n95 : (((b.toNat : Int)) == 95) = false := by simpa using h3
        have h2' : ¬ ((b.toNat : Int) ≤ 57) := by omega
        have L1 := Lib.hid (fun W => LA.out _ r W h4)
        generalize (b.toNat : Int) = c at *
        obtain rfl : r = y + 87 := by omega
        clear h4 h3 h7
        go_wp2_with (go_at_call 145; refine (L1.out _).mono ?_; rintro e w5 ⟨rfl, rfl⟩)
        go_round
        case rel => exact ⟨rfl, .inr (.inr ⟨by go_num, rfl⟩)⟩
        case measure => simp [intOf]
    · go_wp2
      go_ret2
      exact ⟨rfl, B1.out⟩

set_option maxRecDepth 100000 in
theorem parse_any (a b : UInt8) (ha : hexB a = true) (hb : hexB b = true) (w : World) :
    Calls Tryz.prog 122 #[.string ⟨#[a, b]⟩, .int .i64 16, .int .i64 8] w fun e w' => e = .returned (.tuple #[.int .u64 (((hexV a).toNat : Int) * 16 + ((hexV b).toNat : Int)), .nilIface]) ∧ Below w.heap.size w w' := by
  have PI := Lib.hid (fun W => parseIn a b ha hb W)
  clear ha hb
  go_enter Tryz.func122, Tryz.ntmps122
  go_wp2_with (go_at_call 133; refine (PI.out _).mono ?_; rintro e w5 ⟨rfl, hB⟩)
  go_ret2
  exact ⟨rfl, hB⟩

end Go.Proofs.YtfiljgkcipnghaaGreatDoor.X
set_option linter.unusedVariables false
set_option linter.unusedSimpArgs false
namespace Go.Proofs.YtfiljgkcipnghaaGreatDoor.X
open Go.RowKit
/-- What an escape stands for, of what stands behind its backslash: the byte, the length with the backslash. -/
def escL : Bs → Option (UInt8 × Nat)
  | [] => none
  | e :: l =>
    if e = 34 ∨ e = 92 then some (e, 2) else if e = 110 then some (10, 2) else if e = 116 then some (9, 2) else if e = 114 then some (13, 2)
    else if e = 120 then match l with
      | h1 :: h2 :: _ => if hexB h1 && hexB h2 then some (16 * hexV h1 + hexV h2, 4) else none
      | _ => none
    else none
/-- How it goes on. -/
def escK (l : Bs) (off : Nat) (acc : Bs) : Option (UInt8 × Nat) → StrR
  | none => .esc off
  | some (b, n) => strL (l.drop n) (off + n) (acc ++ [b])
theorem strL_esc (l : Bs) (off : Nat) (acc : Bs) : strL (92 :: l) off acc = escK (92 :: l) off acc (escL l) := by
  rw [strL.eq_def]
  unfold escK
  simp only [show ¬ ((92 : UInt8) = 34) by decide, show ¬ ((92 : UInt8) < 32) by decide, if_false, if_true]
  cases l with
  | nil => simp [escL]
  | cons e l =>
    simp only [escL]
    by_cases h1 : e = 34 ∨ e = 92
    · simp [h1]
    · by_cases h2 : e = 110
      · simp [h1, h2]
      · by_cases h3 : e = 116
        · simp [h1, h2, h3]
        · by_cases h4 : e = 114
          · simp [h1, h2, h3, h4]
          · by_cases h5 : e = 120
            · simp only [h5]
              match l with
              | [] => simp
              | [x] => simp
              | x :: y :: l =>
                by_cases h6 : (hexB x && hexB y) = true
                · simp [h6]
                · simp [h6]
            · simp [h1, h2, h3, h4, h5]
/-- What escape answers. -/
def escV (o : Option (UInt8 × Nat)) (i : Nat) : Value := match o with
  | none => .tuple #[.int .u8 0, .int .i64 0]
  | some (b, n) => .tuple #[.int .u8 (b.toNat : Int), .int .i64 ((i + n : Nat) : Int)]
theorem hex_sum (a b : UInt8) (ha : hexB a = true) (hb : hexB b = true) : ((16 * hexV a + hexV b : UInt8).toNat : Int) = ((hexV a).toNat : Int) * 16 + ((hexV b).toNat : Int) := by
  have h1 := hexV_lt a ha
  have h2 := hexV_lt b hb
  rw [UInt8.toNat_add, UInt8.toNat_mul]
  simp
  omega
theorem extract_two (s : ByteArray) (i : Nat) (h : i + 1 < s.size) : s.extract i (i + 2) = ⟨#[s[i], s[i + 1]]⟩ := by
  apply ByteArray.ext
  apply Array.ext'
  have h1 : i < s.data.toList.length := by simpa using (show i < s.size by omega)
  have h2 : i + 1 < s.data.toList.length := by simpa using h
  simp only [ByteArray.data_extract, Array.toList_extract, List.extract_eq_take_drop]
  rw [show i + 2 - i = 2 by omega, List.drop_eq_getElem_cons h1, List.take_succ_cons, List.drop_eq_getElem_cons h2, List.take_succ_cons, List.take_zero]
  rfl

set_option maxHeartbeats 8000000 in
set_option maxRecDepth 100000 in
theorem escape_any (s : ByteArray) (i : Nat) (w : World) (hs : s.size ≤ 1000000000000) (hi : i < s.size) :
    Calls Tryz.prog 109 #[.string s, .int .i64 i] w fun e w' => e = .returned (escV (escL (s.data.toList.drop (i + 1))) i) ∧ Below w.heap.size w w' := by
  by_cases h1 : i + 1 < s.size
  · have hD := drop_at s (i + 1) h1
    -- CASES
    have h1I : ¬ ((s.size : Int) ≤ (i : Int) + 1) := by omega
    by_cases c34 : s[i + 1] = 34
    · have hE : escL (s.data.toList.drop (i + 1)) = some (s[i + 1], 2) := by rw [hD]; simp [escL, c34]
      rw [hE]
      have e34 : ((s[i + 1].toNat : Int) == 34) = true := byte_eq s[i + 1] 34 c34
      clear hE hD c34
      go_enter Tryz.func109, Tryz.ntmps109
      go_wp2
      go_ret2
      exact ⟨rfl, Below.refl _ _⟩
    have n34 : ((s[i + 1].toNat : Int) == 34) = false := byte_ne s[i + 1] 34 (by decide) c34
    by_cases c92 : s[i + 1] = 92
    · have hE : escL (s.data.toList.drop (i + 1)) = some (s[i + 1], 2) := by rw [hD]; simp [escL, c34, c92]
      rw [hE]
      have e92 : ((s[i + 1].toNat : Int) == 92) = true := byte_eq s[i + 1] 92 c92
      clear hE hD c34 c92
      go_enter Tryz.func109, Tryz.ntmps109
      go_wp2
      go_ret2
      exact ⟨rfl, Below.refl _ _⟩
    have n92 : ((s[i + 1].toNat : Int) == 92) = false := byte_ne s[i + 1] 92 (by decide) c92
    by_cases c110 : s[i + 1] = 110
    · have hE : escL (s.data.toList.drop (i + 1)) = some (10, 2) := by rw [hD]; simp [escL, c34, c92, c110]
      rw [hE]
      have e110 : ((s[i + 1].toNat : Int) == 110) = true := byte_eq s[i + 1] 110 c110
      clear hE hD c34 c92 c110
      go_enter Tryz.func109, Tryz.ntmps109
      go_wp2
      go_ret2
      exact ⟨rfl, Below.refl _ _⟩
    have n110 : ((s[i + 1].toNat : Int) == 110) = false := byte_ne s[i + 1] 110 (by decide) c110
    by_cases c116 : s[i + 1] = 116
    · have hE : escL (s.data.toList.drop (i + 1)) = some (9, 2) := by rw [hD]; simp [escL, c34, c92, c110, c116]
      rw [hE]
      have e116 : ((s[i + 1].toNat : Int) == 116) = true := byte_eq s[i + 1] 116 c116
      clear hE hD c34 c92 c110 c116
      go_enter Tryz.func109, Tryz.ntmps109
      go_wp2
      go_ret2
      exact ⟨rfl, Below.refl _ _⟩
    have n116 : ((s[i + 1].toNat : Int) == 116) = false := byte_ne s[i + 1] 116 (by decide) c116
    by_cases c114 : s[i + 1] = 114
    · have hE : escL (s.data.toList.drop (i + 1)) = some (13, 2) := by rw [hD]; simp [escL, c34, c92, c110, c116, c114]
      rw [hE]
      have e114 : ((s[i + 1].toNat : Int) == 114) = true := byte_eq s[i + 1] 114 c114
      clear hE hD c34 c92 c110 c116 c114
      go_enter Tryz.func109, Tryz.ntmps109
      go_wp2
      go_ret2
      exact ⟨rfl, Below.refl _ _⟩
    have n114 : ((s[i + 1].toNat : Int) == 114) = false := byte_ne s[i + 1] 114 (by decide) c114
    by_cases c120 : s[i + 1] = 120
    · have e120 : ((s[i + 1].toNat : Int) == 120) = true := byte_eq s[i + 1] 120 c120
      by_cases h4 : i + 4 ≤ s.size
      · have h4I : ¬ ((s.size : Int) < (i : Int) + 4) := by omega
        have hD2 := drop_at s (i + 1 + 1) (by omega)
        have hD3 := drop_at s (i + 1 + 1 + 1) (by omega)
        have hi2 : i + 2 < s.size := by omega
        have hi3 : i + 3 < s.size := by omega
        have hx : s.extract (i + 2) (i + 4) = ⟨#[s[i + 2], s[i + 3]]⟩ := extract_two s (i + 2) hi3
        have HA := Lib.hid (fun W => hex_any s[i + 2] W)
        have HB := Lib.hid (fun W => hex_any s[i + 3] W)
        have hE : escL (s.data.toList.drop (i + 1)) = if hexB s[i + 2] && hexB s[i + 3] then some (16 * hexV s[i + 2] + hexV s[i + 3], 4) else none := by
          rw [hD, hD2, hD3]; simp [escL, c34, c92, c110, c116, c114, c120]
        have PU := Lib.hid (fun (a : hexB s[i + 2] = true) (b : hexB s[i + 3] = true) W => parse_any s[i + 2] s[i + 3] a b W)
        have HS := Lib.hid (hex_sum s[i + 2] s[i + 3])
        rw [hE]
        clear hE hD hD2 hD3 c34 c92 c110 c116 c114 c120
        cases ha : hexB s[i + 2] with
        | false =>
          rw [ha] at HA
          clear ha hx PU HB HS
          go_enter Tryz.func109, Tryz.ntmps109
          go_wp2_with (go_at_call 121; refine (HA.out _).mono ?_; rintro e w5 ⟨rfl, rfl⟩)
          go_ret2
          exact ⟨rfl, Below.refl _ _⟩
        | true =>
          cases hb : hexB s[i + 3] with
          | false =>
            rw [ha] at HA
            rw [hb] at HB
            clear ha hb hx PU HS
            go_enter Tryz.func109, Tryz.ntmps109
            go_wp2_with (first | (go_at_call 121; (with_reducible refine (HA.out _).mono ?_); rintro e w5 ⟨rfl, rfl⟩) | (go_at_call 121; (with_reducible refine (HB.out _).mono ?_); rintro e w5 ⟨rfl, rfl⟩))
            go_ret2
            exact ⟨rfl, Below.refl _ _⟩
          | true =>
            have hs1 := HS.out ha hb
            have PU2 := Lib.hid (fun W => PU.out ha hb W)
            have hr1 := hexV_lt s[i + 2] ha
            have hr2 := hexV_lt s[i + 3] hb
            have HX := Lib.hid hx
            rw [ha] at HA
            rw [hb] at HB
            clear ha hb PU HS hx
            simp only [Bool.and_self, if_true, escV]
            rw [hs1]
            obtain ⟨x, hx⟩ : ∃ x : Int, x = ((hexV s[i + 2]).toNat : Int) := ⟨_, rfl⟩
            obtain ⟨y, hy⟩ : ∃ y : Int, y = ((hexV s[i + 3]).toNat : Int) := ⟨_, rfl⟩
            rw [← hx, ← hy] at PU2 ⊢
            have hx0 : 0 ≤ x := by omega
            have hx1 : x ≤ 15 := by omega
            have hy0 : 0 ≤ y := by omega
            have hy1 : y ≤ 15 := by omega
            clear hx hy hr1 hr2 hs1
            have hx := HX.out
            go_enter Tryz.func109, Tryz.ntmps109
            go_wp2_with (first | (go_at_call 121; (with_reducible refine (HA.out _).mono ?_); rintro e w5 ⟨rfl, rfl⟩) | (go_at_call 121; (with_reducible refine (HB.out _).mono ?_); rintro e w5 ⟨rfl, rfl⟩) | (go_at_call 122; (with_reducible refine (PU2.out _).mono ?_); rintro e w5 ⟨rfl, hB⟩))
            go_ret2
            exact ⟨rfl, hB⟩
      · have h4I : (s.size : Int) < (i : Int) + 4 := by omega
        have hE : escL (s.data.toList.drop (i + 1)) = none := by
          have hlen : (s.data.toList.drop (i + 1)).length ≤ 2 := by simp; omega
          rw [hD] at hlen ⊢
          simp only [escL, c34, c92, c110, c116, c114, c120, or_self, if_false, if_true]
          match hq : s.data.toList.drop (i + 1 + 1), hlen with
          | [], _ => rfl
          | [a], _ => rfl
          | a :: b :: l, h => simp at h
        rw [hE]
        clear hE hD c34 c92 c110 c116 c114 c120
        go_enter Tryz.func109, Tryz.ntmps109
        go_wp2
        go_ret2
        exact ⟨rfl, Below.refl _ _⟩
    have n120 : ((s[i + 1].toNat : Int) == 120) = false := byte_ne s[i + 1] 120 (by decide) c120
    have hE : escL (s.data.toList.drop (i + 1)) = none := by rw [hD]; simp [escL, c34, c92, c110, c116, c114, c120]
    rw [hE]
    clear hE hD c34 c92 c110 c116 c114 c120
    go_enter Tryz.func109, Tryz.ntmps109
    go_wp2
    go_ret2
    exact ⟨rfl, Below.refl _ _⟩
  · have hN : escL (s.data.toList.drop (i + 1)) = none := by rw [drop_end s (i + 1) (by omega)]; rfl
    rw [hN]
    have h1I : (s.size : Int) ≤ (i : Int) + 1 := by omega
    clear hN h1
    go_enter Tryz.func109, Tryz.ntmps109
    go_wp2
    go_ret2
    exact ⟨rfl, Below.refl _ _⟩

end Go.Proofs.YtfiljgkcipnghaaGreatDoor.X
