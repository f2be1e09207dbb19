/-
  The walk of begins.
-/
import Derived.Test.YtghhnnbbjlipcaaDoorParWake
import Derived.Test.YtghhnnbbjlipcaaDoorPlEither
set_option linter.unusedVariables false
set_option linter.unusedSimpArgs false
namespace Go.Proofs.YtghhnnbbjlipcaaDoor.X
open Go.RowKit
set_option maxHeartbeats 4000000 in
set_option maxRecDepth 100000 in
theorem begins_3_n_33 (s : ByteArray) (i : Nat) (hi : i < s.size) (hs : s.size ≤ 140737488355328) (text : Bs) (num : Int) (a : Option Addr) (m c : Nat) (w : World) (hb : (s[i]'hi).toNat = 33) :
    Calls Tryd.prog 11 #[.string s, .agg #[.int .i64 3, .string ⟨text.toArray⟩, .int .i64 num, .slice a m c], .int .i64 (i : Nat)] w fun e w' => e = .returned (.bool true) ∧ Below w.heap.size w w' := by
  have hI : (i : Int) < (s.size : Int) := by omega
  have hI2 : ¬ (s.size : Int) ≤ (i : Int) := by omega
  have hI3 : ¬ (i : Int) < 0 := by omega
  go_enter Tryd.func11, Tryd.ntmps11
  go_wp2
  go_ret
  exact ⟨rfl, (Below.refl _ _).alloc (Nat.le_refl _) _⟩
set_option maxHeartbeats 4000000 in
set_option maxRecDepth 100000 in
theorem begins_4_n_38 (s : ByteArray) (i : Nat) (hi : i < s.size) (hs : s.size ≤ 140737488355328) (text : Bs) (num : Int) (a : Option Addr) (m c : Nat) (w : World) (hb : (s[i]'hi).toNat = 38) :
    Calls Tryd.prog 11 #[.string s, .agg #[.int .i64 4, .string ⟨text.toArray⟩, .int .i64 num, .slice a m c], .int .i64 (i : Nat)] w fun e w' => e = .returned (.bool true) ∧ Below w.heap.size w w' := by
  have hI : (i : Int) < (s.size : Int) := by omega
  have hI2 : ¬ (s.size : Int) ≤ (i : Int) := by omega
  have hI3 : ¬ (i : Int) < 0 := by omega
  go_enter Tryd.func11, Tryd.ntmps11
  go_wp2
  go_ret
  exact ⟨rfl, (Below.refl _ _).alloc (Nat.le_refl _) _⟩
set_option maxHeartbeats 4000000 in
set_option maxRecDepth 100000 in
theorem begins_5_n_124 (s : ByteArray) (i : Nat) (hi : i < s.size) (hs : s.size ≤ 140737488355328) (text : Bs) (num : Int) (a : Option Addr) (m c : Nat) (w : World) (hb : (s[i]'hi).toNat = 124) :
    Calls Tryd.prog 11 #[.string s, .agg #[.int .i64 5, .string ⟨text.toArray⟩, .int .i64 num, .slice a m c], .int .i64 (i : Nat)] w fun e w' => e = .returned (.bool true) ∧ Below w.heap.size w w' := by
  have hI : (i : Int) < (s.size : Int) := by omega
  have hI2 : ¬ (s.size : Int) ≤ (i : Int) := by omega
  have hI3 : ¬ (i : Int) < 0 := by omega
  go_enter Tryd.func11, Tryd.ntmps11
  go_wp2
  go_ret
  exact ⟨rfl, (Below.refl _ _).alloc (Nat.le_refl _) _⟩
set_option maxHeartbeats 4000000 in
set_option maxRecDepth 100000 in
theorem begins_13_n_123 (s : ByteArray) (i : Nat) (hi : i < s.size) (hs : s.size ≤ 140737488355328) (text : Bs) (num : Int) (a : Option Addr) (m c : Nat) (w : World) (hb : (s[i]'hi).toNat = 123) :
    Calls Tryd.prog 11 #[.string s, .agg #[.int .i64 13, .string ⟨text.toArray⟩, .int .i64 num, .slice a m c], .int .i64 (i : Nat)] w fun e w' => e = .returned (.bool true) ∧ Below w.heap.size w w' := by
  have hI : (i : Int) < (s.size : Int) := by omega
  have hI2 : ¬ (s.size : Int) ≤ (i : Int) := by omega
  have hI3 : ¬ (i : Int) < 0 := by omega
  go_enter Tryd.func11, Tryd.ntmps11
  go_wp2
  go_ret
  exact ⟨rfl, (Below.refl _ _).alloc (Nat.le_refl _) _⟩
set_option maxHeartbeats 4000000 in
set_option maxRecDepth 100000 in
theorem begins_11_n_34 (s : ByteArray) (i : Nat) (hi : i < s.size) (hs : s.size ≤ 140737488355328) (text : Bs) (num : Int) (a : Option Addr) (m c : Nat) (w : World) (hb : (s[i]'hi).toNat = 34) :
    Calls Tryd.prog 11 #[.string s, .agg #[.int .i64 11, .string ⟨text.toArray⟩, .int .i64 num, .slice a m c], .int .i64 (i : Nat)] w fun e w' => e = .returned (.bool true) ∧ Below w.heap.size w w' := by
  have hI : (i : Int) < (s.size : Int) := by omega
  have hI2 : ¬ (s.size : Int) ≤ (i : Int) := by omega
  have hI3 : ¬ (i : Int) < 0 := by omega
  go_enter Tryd.func11, Tryd.ntmps11
  go_wp2
  go_ret
  exact ⟨rfl, (Below.refl _ _).alloc (Nat.le_refl _) _⟩
set_option maxHeartbeats 4000000 in
set_option maxRecDepth 100000 in
theorem begins_1_n_116 (s : ByteArray) (i : Nat) (hi : i < s.size) (hs : s.size ≤ 140737488355328) (text : Bs) (num : Int) (a : Option Addr) (m c : Nat) (w : World) (hb : (s[i]'hi).toNat = 116) :
    Calls Tryd.prog 11 #[.string s, .agg #[.int .i64 1, .string ⟨text.toArray⟩, .int .i64 num, .slice a m c], .int .i64 (i : Nat)] w fun e w' => e = .returned (.bool true) ∧ Below w.heap.size w w' := by
  have hI : (i : Int) < (s.size : Int) := by omega
  have hI2 : ¬ (s.size : Int) ≤ (i : Int) := by omega
  have hI3 : ¬ (i : Int) < 0 := by omega
  go_enter Tryd.func11, Tryd.ntmps11
  go_wp2
  go_ret
  exact ⟨rfl, (Below.refl _ _).alloc (Nat.le_refl _) _⟩
set_option maxHeartbeats 4000000 in
set_option maxRecDepth 100000 in
theorem begins_10_n_116 (s : ByteArray) (i : Nat) (hi : i < s.size) (hs : s.size ≤ 140737488355328) (text : Bs) (num : Int) (a : Option Addr) (m c : Nat) (w : World) (hb : (s[i]'hi).toNat = 116) :
    Calls Tryd.prog 11 #[.string s, .agg #[.int .i64 10, .string ⟨text.toArray⟩, .int .i64 num, .slice a m c], .int .i64 (i : Nat)] w fun e w' => e = .returned (.bool true) ∧ Below w.heap.size w w' := by
  have hI : (i : Int) < (s.size : Int) := by omega
  have hI2 : ¬ (s.size : Int) ≤ (i : Int) := by omega
  have hI3 : ¬ (i : Int) < 0 := by omega
  go_enter Tryd.func11, Tryd.ntmps11
  go_wp2
  go_ret
  exact ⟨rfl, (Below.refl _ _).alloc (Nat.le_refl _) _⟩
set_option maxHeartbeats 4000000 in
set_option maxRecDepth 100000 in
theorem begins_2_n_102 (s : ByteArray) (i : Nat) (hi : i < s.size) (hs : s.size ≤ 140737488355328) (text : Bs) (num : Int) (a : Option Addr) (m c : Nat) (w : World) (hb : (s[i]'hi).toNat = 102) :
    Calls Tryd.prog 11 #[.string s, .agg #[.int .i64 2, .string ⟨text.toArray⟩, .int .i64 num, .slice a m c], .int .i64 (i : Nat)] w fun e w' => e = .returned (.bool true) ∧ Below w.heap.size w w' := by
  have hI : (i : Int) < (s.size : Int) := by omega
  have hI2 : ¬ (s.size : Int) ≤ (i : Int) := by omega
  have hI3 : ¬ (i : Int) < 0 := by omega
  go_enter Tryd.func11, Tryd.ntmps11
  go_wp2
  go_ret
  exact ⟨rfl, (Below.refl _ _).alloc (Nat.le_refl _) _⟩
set_option maxHeartbeats 4000000 in
set_option maxRecDepth 100000 in
theorem begins_8_n_110 (s : ByteArray) (i : Nat) (hi : i < s.size) (hs : s.size ≤ 140737488355328) (text : Bs) (num : Int) (a : Option Addr) (m c : Nat) (w : World) (hb : (s[i]'hi).toNat = 110) :
    Calls Tryd.prog 11 #[.string s, .agg #[.int .i64 8, .string ⟨text.toArray⟩, .int .i64 num, .slice a m c], .int .i64 (i : Nat)] w fun e w' => e = .returned (.bool true) ∧ Below w.heap.size w w' := by
  have hI : (i : Int) < (s.size : Int) := by omega
  have hI2 : ¬ (s.size : Int) ≤ (i : Int) := by omega
  have hI3 : ¬ (i : Int) < 0 := by omega
  go_enter Tryd.func11, Tryd.ntmps11
  go_wp2
  go_ret
  exact ⟨rfl, (Below.refl _ _).alloc (Nat.le_refl _) _⟩
set_option maxHeartbeats 4000000 in
set_option maxRecDepth 100000 in
theorem begins_9_n_97 (s : ByteArray) (i : Nat) (hi : i < s.size) (hs : s.size ≤ 140737488355328) (text : Bs) (num : Int) (a : Option Addr) (m c : Nat) (w : World) (hb : (s[i]'hi).toNat = 97) :
    Calls Tryd.prog 11 #[.string s, .agg #[.int .i64 9, .string ⟨text.toArray⟩, .int .i64 num, .slice a m c], .int .i64 (i : Nat)] w fun e w' => e = .returned (.bool true) ∧ Below w.heap.size w w' := by
  have hI : (i : Int) < (s.size : Int) := by omega
  have hI2 : ¬ (s.size : Int) ≤ (i : Int) := by omega
  have hI3 : ¬ (i : Int) < 0 := by omega
  go_enter Tryd.func11, Tryd.ntmps11
  go_wp2
  go_ret
  exact ⟨rfl, (Below.refl _ _).alloc (Nat.le_refl _) _⟩
set_option maxHeartbeats 4000000 in
set_option maxRecDepth 100000 in
theorem begins_19_n_105 (s : ByteArray) (i : Nat) (hi : i < s.size) (hs : s.size ≤ 140737488355328) (text : Bs) (num : Int) (a : Option Addr) (m c : Nat) (w : World) (hb : (s[i]'hi).toNat = 105) :
    Calls Tryd.prog 11 #[.string s, .agg #[.int .i64 19, .string ⟨text.toArray⟩, .int .i64 num, .slice a m c], .int .i64 (i : Nat)] w fun e w' => e = .returned (.bool true) ∧ Below w.heap.size w w' := by
  have hI : (i : Int) < (s.size : Int) := by omega
  have hI2 : ¬ (s.size : Int) ≤ (i : Int) := by omega
  have hI3 : ¬ (i : Int) < 0 := by omega
  go_enter Tryd.func11, Tryd.ntmps11
  go_wp2
  go_ret
  exact ⟨rfl, (Below.refl _ _).alloc (Nat.le_refl _) _⟩
set_option maxHeartbeats 4000000 in
set_option maxRecDepth 100000 in
theorem begins_20_n_99 (s : ByteArray) (i : Nat) (hi : i < s.size) (hs : s.size ≤ 140737488355328) (text : Bs) (num : Int) (a : Option Addr) (m c : Nat) (w : World) (hb : (s[i]'hi).toNat = 99) :
    Calls Tryd.prog 11 #[.string s, .agg #[.int .i64 20, .string ⟨text.toArray⟩, .int .i64 num, .slice a m c], .int .i64 (i : Nat)] w fun e w' => e = .returned (.bool true) ∧ Below w.heap.size w w' := by
  have hI : (i : Int) < (s.size : Int) := by omega
  have hI2 : ¬ (s.size : Int) ≤ (i : Int) := by omega
  have hI3 : ¬ (i : Int) < 0 := by omega
  go_enter Tryd.func11, Tryd.ntmps11
  go_wp2
  go_ret
  exact ⟨rfl, (Below.refl _ _).alloc (Nat.le_refl _) _⟩
set_option maxHeartbeats 4000000 in
set_option maxRecDepth 100000 in
theorem begins_6_n_61 (s : ByteArray) (i : Nat) (hi : i < s.size) (hs : s.size ≤ 140737488355328) (text : Bs) (num : Int) (a : Option Addr) (m c : Nat) (w : World) (hb : (s[i]'hi).toNat = 61) :
    Calls Tryd.prog 11 #[.string s, .agg #[.int .i64 6, .string ⟨text.toArray⟩, .int .i64 num, .slice a m c], .int .i64 (i : Nat)] w fun e w' => e = .returned (.bool true) ∧ Below w.heap.size w w' := by
  have hI : (i : Int) < (s.size : Int) := by omega
  have hI2 : ¬ (s.size : Int) ≤ (i : Int) := by omega
  have hI3 : ¬ (i : Int) < 0 := by omega
  go_enter Tryd.func11, Tryd.ntmps11
  go_wp2
  go_ret
  exact ⟨rfl, (Below.refl _ _).alloc (Nat.le_refl _) _⟩
set_option maxHeartbeats 4000000 in
set_option maxRecDepth 100000 in
theorem begins_6_n_33 (s : ByteArray) (i : Nat) (hi : i < s.size) (hs : s.size ≤ 140737488355328) (text : Bs) (num : Int) (a : Option Addr) (m c : Nat) (w : World) (hb : (s[i]'hi).toNat = 33) :
    Calls Tryd.prog 11 #[.string s, .agg #[.int .i64 6, .string ⟨text.toArray⟩, .int .i64 num, .slice a m c], .int .i64 (i : Nat)] w fun e w' => e = .returned (.bool true) ∧ Below w.heap.size w w' := by
  have hI : (i : Int) < (s.size : Int) := by omega
  have hI2 : ¬ (s.size : Int) ≤ (i : Int) := by omega
  have hI3 : ¬ (i : Int) < 0 := by omega
  go_enter Tryd.func11, Tryd.ntmps11
  go_wp2
  go_ret
  exact ⟨rfl, (Below.refl _ _).alloc (Nat.le_refl _) _⟩
set_option maxHeartbeats 4000000 in
set_option maxRecDepth 100000 in
theorem begins_6_n_60 (s : ByteArray) (i : Nat) (hi : i < s.size) (hs : s.size ≤ 140737488355328) (text : Bs) (num : Int) (a : Option Addr) (m c : Nat) (w : World) (hb : (s[i]'hi).toNat = 60) :
    Calls Tryd.prog 11 #[.string s, .agg #[.int .i64 6, .string ⟨text.toArray⟩, .int .i64 num, .slice a m c], .int .i64 (i : Nat)] w fun e w' => e = .returned (.bool true) ∧ Below w.heap.size w w' := by
  have hI : (i : Int) < (s.size : Int) := by omega
  have hI2 : ¬ (s.size : Int) ≤ (i : Int) := by omega
  have hI3 : ¬ (i : Int) < 0 := by omega
  go_enter Tryd.func11, Tryd.ntmps11
  go_wp2
  go_ret
  exact ⟨rfl, (Below.refl _ _).alloc (Nat.le_refl _) _⟩
set_option maxHeartbeats 4000000 in
set_option maxRecDepth 100000 in
theorem begins_6_n_62 (s : ByteArray) (i : Nat) (hi : i < s.size) (hs : s.size ≤ 140737488355328) (text : Bs) (num : Int) (a : Option Addr) (m c : Nat) (w : World) (hb : (s[i]'hi).toNat = 62) :
    Calls Tryd.prog 11 #[.string s, .agg #[.int .i64 6, .string ⟨text.toArray⟩, .int .i64 num, .slice a m c], .int .i64 (i : Nat)] w fun e w' => e = .returned (.bool true) ∧ Below w.heap.size w w' := by
  have hI : (i : Int) < (s.size : Int) := by omega
  have hI2 : ¬ (s.size : Int) ≤ (i : Int) := by omega
  have hI3 : ¬ (i : Int) < 0 := by omega
  go_enter Tryd.func11, Tryd.ntmps11
  go_wp2
  go_ret
  exact ⟨rfl, (Below.refl _ _).alloc (Nat.le_refl _) _⟩
set_option maxHeartbeats 4000000 in
set_option maxRecDepth 100000 in
theorem begins_7_0_105 (s : ByteArray) (i : Nat) (hi : i < s.size) (hs : s.size ≤ 140737488355328) (text : Bs) (a : Option Addr) (m c : Nat) (w : World) (hb : (s[i]'hi).toNat = 105) :
    Calls Tryd.prog 11 #[.string s, .agg #[.int .i64 7, .string ⟨text.toArray⟩, .int .i64 0, .slice a m c], .int .i64 (i : Nat)] w fun e w' => e = .returned (.bool true) ∧ Below w.heap.size w w' := by
  have hI : (i : Int) < (s.size : Int) := by omega
  have hI2 : ¬ (s.size : Int) ≤ (i : Int) := by omega
  have hI3 : ¬ (i : Int) < 0 := by omega
  go_enter Tryd.func11, Tryd.ntmps11
  go_wp2
  go_ret
  exact ⟨rfl, (Below.refl _ _).alloc (Nat.le_refl _) _⟩
set_option maxHeartbeats 4000000 in
set_option maxRecDepth 100000 in
theorem begins_7_1_110 (s : ByteArray) (i : Nat) (hi : i < s.size) (hs : s.size ≤ 140737488355328) (text : Bs) (a : Option Addr) (m c : Nat) (w : World) (hb : (s[i]'hi).toNat = 110) :
    Calls Tryd.prog 11 #[.string s, .agg #[.int .i64 7, .string ⟨text.toArray⟩, .int .i64 1, .slice a m c], .int .i64 (i : Nat)] w fun e w' => e = .returned (.bool true) ∧ Below w.heap.size w w' := by
  have hI : (i : Int) < (s.size : Int) := by omega
  have hI2 : ¬ (s.size : Int) ≤ (i : Int) := by omega
  have hI3 : ¬ (i : Int) < 0 := by omega
  go_enter Tryd.func11, Tryd.ntmps11
  go_wp2
  go_ret
  exact ⟨rfl, (Below.refl _ _).alloc (Nat.le_refl _) _⟩
set_option maxHeartbeats 4000000 in
set_option maxRecDepth 100000 in
theorem begins_12_n_45 (s : ByteArray) (i : Nat) (hi : i < s.size) (hs : s.size ≤ 140737488355328) (text : Bs) (num : Int) (a : Option Addr) (m c : Nat) (w : World) (hb : (s[i]'hi).toNat = 45) :
    Calls Tryd.prog 11 #[.string s, .agg #[.int .i64 12, .string ⟨text.toArray⟩, .int .i64 num, .slice a m c], .int .i64 (i : Nat)] w fun e w' => e = .returned (.bool true) ∧ Below w.heap.size w w' := by
  have hI : (i : Int) < (s.size : Int) := by omega
  have hI2 : ¬ (s.size : Int) ≤ (i : Int) := by omega
  have hI3 : ¬ (i : Int) < 0 := by omega
  go_enter Tryd.func11, Tryd.ntmps11
  go_wp2
  go_ret
  exact ⟨rfl, (Below.refl _ _).alloc (Nat.le_refl _) _⟩
set_option maxHeartbeats 4000000 in
set_option maxRecDepth 100000 in
theorem begins_12_n_dig (s : ByteArray) (i : Nat) (hi : i < s.size) (hs : s.size ≤ 140737488355328) (text : Bs) (num : Int) (a : Option Addr) (m c : Nat) (w : World) (hb : 48 ≤ (s[i]'hi).toNat) (hb2 : (s[i]'hi).toNat ≤ 57) :
    Calls Tryd.prog 11 #[.string s, .agg #[.int .i64 12, .string ⟨text.toArray⟩, .int .i64 num, .slice a m c], .int .i64 (i : Nat)] w fun e w' => e = .returned (.bool true) ∧ Below w.heap.size w w' := by
  have hI : (i : Int) < (s.size : Int) := by omega
  have hI2 : ¬ (s.size : Int) ≤ (i : Int) := by omega
  have hI3 : ¬ (i : Int) < 0 := by omega
  have h45 : ((s[i]'hi).toNat == 45) = false := by rw [beq_eq_false_iff_ne]; omega
  have h45b : (((s[i]'hi).toNat : Int) == 45) = false := by rw [beq_eq_false_iff_ne]; omega
  have hb3 : (48 : Int) ≤ ((s[i]'hi).toNat : Int) := by omega
  have hb4 : ((s[i]'hi).toNat : Int) ≤ 57 := by omega
  go_enter Tryd.func11, Tryd.ntmps11
  go_wp2
  go_ret
  exact ⟨rfl, (Below.refl _ _).alloc (Nat.le_refl _) _⟩
set_option maxHeartbeats 4000000 in
set_option maxRecDepth 100000 in
theorem begins_14_2_110 (s : ByteArray) (i : Nat) (hi : i < s.size) (hs : s.size ≤ 140737488355328) (text : Bs) (a : Option Addr) (m c : Nat) (w : World) (hb : (s[i]'hi).toNat = 110) :
    Calls Tryd.prog 11 #[.string s, .agg #[.int .i64 14, .string ⟨text.toArray⟩, .int .i64 2, .slice a m c], .int .i64 (i : Nat)] w fun e w' => e = .returned (.bool true) ∧ Below w.heap.size w w' := by
  have hI : (i : Int) < (s.size : Int) := by omega
  have hI2 : ¬ (s.size : Int) ≤ (i : Int) := by omega
  have hI3 : ¬ (i : Int) < 0 := by omega
  go_enter Tryd.func11, Tryd.ntmps11
  go_wp2
  go_ret
  exact ⟨rfl, (Below.refl _ _).alloc (Nat.le_refl _) _⟩
set_option maxHeartbeats 4000000 in
set_option maxRecDepth 100000 in
theorem begins_14_1_112 (s : ByteArray) (i : Nat) (hi : i < s.size) (hs : s.size ≤ 140737488355328) (text : Bs) (a : Option Addr) (m c : Nat) (w : World) (hb : (s[i]'hi).toNat = 112) :
    Calls Tryd.prog 11 #[.string s, .agg #[.int .i64 14, .string ⟨text.toArray⟩, .int .i64 1, .slice a m c], .int .i64 (i : Nat)] w fun e w' => e = .returned (.bool true) ∧ Below w.heap.size w w' := by
  have hI : (i : Int) < (s.size : Int) := by omega
  have hI2 : ¬ (s.size : Int) ≤ (i : Int) := by omega
  have hI3 : ¬ (i : Int) < 0 := by omega
  go_enter Tryd.func11, Tryd.ntmps11
  go_wp2
  go_ret
  exact ⟨rfl, (Below.refl _ _).alloc (Nat.le_refl _) _⟩
set_option maxHeartbeats 4000000 in
set_option maxRecDepth 100000 in
theorem begins_14_3_105 (s : ByteArray) (i : Nat) (hi : i < s.size) (hs : s.size ≤ 140737488355328) (text : Bs) (a : Option Addr) (m c : Nat) (w : World) (hb : (s[i]'hi).toNat = 105) :
    Calls Tryd.prog 11 #[.string s, .agg #[.int .i64 14, .string ⟨text.toArray⟩, .int .i64 3, .slice a m c], .int .i64 (i : Nat)] w fun e w' => e = .returned (.bool true) ∧ Below w.heap.size w w' := by
  have hI : (i : Int) < (s.size : Int) := by omega
  have hI2 : ¬ (s.size : Int) ≤ (i : Int) := by omega
  have hI3 : ¬ (i : Int) < 0 := by omega
  go_enter Tryd.func11, Tryd.ntmps11
  go_wp2
  go_ret
  exact ⟨rfl, (Below.refl _ _).alloc (Nat.le_refl _) _⟩
set_option maxHeartbeats 4000000 in
set_option maxRecDepth 100000 in
theorem begins_15_2_110 (s : ByteArray) (i : Nat) (hi : i < s.size) (hs : s.size ≤ 140737488355328) (text : Bs) (a : Option Addr) (m c : Nat) (w : World) (hb : (s[i]'hi).toNat = 110) :
    Calls Tryd.prog 11 #[.string s, .agg #[.int .i64 15, .string ⟨text.toArray⟩, .int .i64 2, .slice a m c], .int .i64 (i : Nat)] w fun e w' => e = .returned (.bool true) ∧ Below w.heap.size w w' := by
  have hI : (i : Int) < (s.size : Int) := by omega
  have hI2 : ¬ (s.size : Int) ≤ (i : Int) := by omega
  have hI3 : ¬ (i : Int) < 0 := by omega
  go_enter Tryd.func11, Tryd.ntmps11
  go_wp2
  go_ret
  exact ⟨rfl, (Below.refl _ _).alloc (Nat.le_refl _) _⟩
set_option maxHeartbeats 4000000 in
set_option maxRecDepth 100000 in
theorem begins_15_1_112 (s : ByteArray) (i : Nat) (hi : i < s.size) (hs : s.size ≤ 140737488355328) (text : Bs) (a : Option Addr) (m c : Nat) (w : World) (hb : (s[i]'hi).toNat = 112) :
    Calls Tryd.prog 11 #[.string s, .agg #[.int .i64 15, .string ⟨text.toArray⟩, .int .i64 1, .slice a m c], .int .i64 (i : Nat)] w fun e w' => e = .returned (.bool true) ∧ Below w.heap.size w w' := by
  have hI : (i : Int) < (s.size : Int) := by omega
  have hI2 : ¬ (s.size : Int) ≤ (i : Int) := by omega
  have hI3 : ¬ (i : Int) < 0 := by omega
  go_enter Tryd.func11, Tryd.ntmps11
  go_wp2
  go_ret
  exact ⟨rfl, (Below.refl _ _).alloc (Nat.le_refl _) _⟩
set_option maxHeartbeats 4000000 in
set_option maxRecDepth 100000 in
theorem begins_15_3_105 (s : ByteArray) (i : Nat) (hi : i < s.size) (hs : s.size ≤ 140737488355328) (text : Bs) (a : Option Addr) (m c : Nat) (w : World) (hb : (s[i]'hi).toNat = 105) :
    Calls Tryd.prog 11 #[.string s, .agg #[.int .i64 15, .string ⟨text.toArray⟩, .int .i64 3, .slice a m c], .int .i64 (i : Nat)] w fun e w' => e = .returned (.bool true) ∧ Below w.heap.size w w' := by
  have hI : (i : Int) < (s.size : Int) := by omega
  have hI2 : ¬ (s.size : Int) ≤ (i : Int) := by omega
  have hI3 : ¬ (i : Int) < 0 := by omega
  go_enter Tryd.func11, Tryd.ntmps11
  go_wp2
  go_ret
  exact ⟨rfl, (Below.refl _ _).alloc (Nat.le_refl _) _⟩
set_option maxHeartbeats 4000000 in
set_option maxRecDepth 100000 in
theorem begins_16_2_110 (s : ByteArray) (i : Nat) (hi : i < s.size) (hs : s.size ≤ 140737488355328) (text : Bs) (a : Option Addr) (m c : Nat) (w : World) (hb : (s[i]'hi).toNat = 110) :
    Calls Tryd.prog 11 #[.string s, .agg #[.int .i64 16, .string ⟨text.toArray⟩, .int .i64 2, .slice a m c], .int .i64 (i : Nat)] w fun e w' => e = .returned (.bool true) ∧ Below w.heap.size w w' := by
  have hI : (i : Int) < (s.size : Int) := by omega
  have hI2 : ¬ (s.size : Int) ≤ (i : Int) := by omega
  have hI3 : ¬ (i : Int) < 0 := by omega
  go_enter Tryd.func11, Tryd.ntmps11
  go_wp2
  go_ret
  exact ⟨rfl, (Below.refl _ _).alloc (Nat.le_refl _) _⟩
set_option maxHeartbeats 4000000 in
set_option maxRecDepth 100000 in
theorem begins_16_1_112 (s : ByteArray) (i : Nat) (hi : i < s.size) (hs : s.size ≤ 140737488355328) (text : Bs) (a : Option Addr) (m c : Nat) (w : World) (hb : (s[i]'hi).toNat = 112) :
    Calls Tryd.prog 11 #[.string s, .agg #[.int .i64 16, .string ⟨text.toArray⟩, .int .i64 1, .slice a m c], .int .i64 (i : Nat)] w fun e w' => e = .returned (.bool true) ∧ Below w.heap.size w w' := by
  have hI : (i : Int) < (s.size : Int) := by omega
  have hI2 : ¬ (s.size : Int) ≤ (i : Int) := by omega
  have hI3 : ¬ (i : Int) < 0 := by omega
  go_enter Tryd.func11, Tryd.ntmps11
  go_wp2
  go_ret
  exact ⟨rfl, (Below.refl _ _).alloc (Nat.le_refl _) _⟩
set_option maxHeartbeats 4000000 in
set_option maxRecDepth 100000 in
theorem begins_16_3_105 (s : ByteArray) (i : Nat) (hi : i < s.size) (hs : s.size ≤ 140737488355328) (text : Bs) (a : Option Addr) (m c : Nat) (w : World) (hb : (s[i]'hi).toNat = 105) :
    Calls Tryd.prog 11 #[.string s, .agg #[.int .i64 16, .string ⟨text.toArray⟩, .int .i64 3, .slice a m c], .int .i64 (i : Nat)] w fun e w' => e = .returned (.bool true) ∧ Below w.heap.size w w' := by
  have hI : (i : Int) < (s.size : Int) := by omega
  have hI2 : ¬ (s.size : Int) ≤ (i : Int) := by omega
  have hI3 : ¬ (i : Int) < 0 := by omega
  go_enter Tryd.func11, Tryd.ntmps11
  go_wp2
  go_ret
  exact ⟨rfl, (Below.refl _ _).alloc (Nat.le_refl _) _⟩
set_option maxHeartbeats 4000000 in
set_option maxRecDepth 100000 in
theorem begins_17_2_110 (s : ByteArray) (i : Nat) (hi : i < s.size) (hs : s.size ≤ 140737488355328) (text : Bs) (a : Option Addr) (m c : Nat) (w : World) (hb : (s[i]'hi).toNat = 110) :
    Calls Tryd.prog 11 #[.string s, .agg #[.int .i64 17, .string ⟨text.toArray⟩, .int .i64 2, .slice a m c], .int .i64 (i : Nat)] w fun e w' => e = .returned (.bool true) ∧ Below w.heap.size w w' := by
  have hI : (i : Int) < (s.size : Int) := by omega
  have hI2 : ¬ (s.size : Int) ≤ (i : Int) := by omega
  have hI3 : ¬ (i : Int) < 0 := by omega
  go_enter Tryd.func11, Tryd.ntmps11
  go_wp2
  go_ret
  exact ⟨rfl, (Below.refl _ _).alloc (Nat.le_refl _) _⟩
set_option maxHeartbeats 4000000 in
set_option maxRecDepth 100000 in
theorem begins_17_1_112 (s : ByteArray) (i : Nat) (hi : i < s.size) (hs : s.size ≤ 140737488355328) (text : Bs) (a : Option Addr) (m c : Nat) (w : World) (hb : (s[i]'hi).toNat = 112) :
    Calls Tryd.prog 11 #[.string s, .agg #[.int .i64 17, .string ⟨text.toArray⟩, .int .i64 1, .slice a m c], .int .i64 (i : Nat)] w fun e w' => e = .returned (.bool true) ∧ Below w.heap.size w w' := by
  have hI : (i : Int) < (s.size : Int) := by omega
  have hI2 : ¬ (s.size : Int) ≤ (i : Int) := by omega
  have hI3 : ¬ (i : Int) < 0 := by omega
  go_enter Tryd.func11, Tryd.ntmps11
  go_wp2
  go_ret
  exact ⟨rfl, (Below.refl _ _).alloc (Nat.le_refl _) _⟩
set_option maxHeartbeats 4000000 in
set_option maxRecDepth 100000 in
theorem begins_17_3_105 (s : ByteArray) (i : Nat) (hi : i < s.size) (hs : s.size ≤ 140737488355328) (text : Bs) (a : Option Addr) (m c : Nat) (w : World) (hb : (s[i]'hi).toNat = 105) :
    Calls Tryd.prog 11 #[.string s, .agg #[.int .i64 17, .string ⟨text.toArray⟩, .int .i64 3, .slice a m c], .int .i64 (i : Nat)] w fun e w' => e = .returned (.bool true) ∧ Below w.heap.size w w' := by
  have hI : (i : Int) < (s.size : Int) := by omega
  have hI2 : ¬ (s.size : Int) ≤ (i : Int) := by omega
  have hI3 : ¬ (i : Int) < 0 := by omega
  go_enter Tryd.func11, Tryd.ntmps11
  go_wp2
  go_ret
  exact ⟨rfl, (Below.refl _ _).alloc (Nat.le_refl _) _⟩
set_option maxHeartbeats 4000000 in
set_option maxRecDepth 100000 in
theorem begins_18_2_110 (s : ByteArray) (i : Nat) (hi : i < s.size) (hs : s.size ≤ 140737488355328) (text : Bs) (a : Option Addr) (m c : Nat) (w : World) (hb : (s[i]'hi).toNat = 110) :
    Calls Tryd.prog 11 #[.string s, .agg #[.int .i64 18, .string ⟨text.toArray⟩, .int .i64 2, .slice a m c], .int .i64 (i : Nat)] w fun e w' => e = .returned (.bool true) ∧ Below w.heap.size w w' := by
  have hI : (i : Int) < (s.size : Int) := by omega
  have hI2 : ¬ (s.size : Int) ≤ (i : Int) := by omega
  have hI3 : ¬ (i : Int) < 0 := by omega
  go_enter Tryd.func11, Tryd.ntmps11
  go_wp2
  go_ret
  exact ⟨rfl, (Below.refl _ _).alloc (Nat.le_refl _) _⟩
set_option maxHeartbeats 4000000 in
set_option maxRecDepth 100000 in
theorem begins_18_1_112 (s : ByteArray) (i : Nat) (hi : i < s.size) (hs : s.size ≤ 140737488355328) (text : Bs) (a : Option Addr) (m c : Nat) (w : World) (hb : (s[i]'hi).toNat = 112) :
    Calls Tryd.prog 11 #[.string s, .agg #[.int .i64 18, .string ⟨text.toArray⟩, .int .i64 1, .slice a m c], .int .i64 (i : Nat)] w fun e w' => e = .returned (.bool true) ∧ Below w.heap.size w w' := by
  have hI : (i : Int) < (s.size : Int) := by omega
  have hI2 : ¬ (s.size : Int) ≤ (i : Int) := by omega
  have hI3 : ¬ (i : Int) < 0 := by omega
  go_enter Tryd.func11, Tryd.ntmps11
  go_wp2
  go_ret
  exact ⟨rfl, (Below.refl _ _).alloc (Nat.le_refl _) _⟩
set_option maxHeartbeats 4000000 in
set_option maxRecDepth 100000 in
theorem begins_18_3_105 (s : ByteArray) (i : Nat) (hi : i < s.size) (hs : s.size ≤ 140737488355328) (text : Bs) (a : Option Addr) (m c : Nat) (w : World) (hb : (s[i]'hi).toNat = 105) :
    Calls Tryd.prog 11 #[.string s, .agg #[.int .i64 18, .string ⟨text.toArray⟩, .int .i64 3, .slice a m c], .int .i64 (i : Nat)] w fun e w' => e = .returned (.bool true) ∧ Below w.heap.size w w' := by
  have hI : (i : Int) < (s.size : Int) := by omega
  have hI2 : ¬ (s.size : Int) ≤ (i : Int) := by omega
  have hI3 : ¬ (i : Int) < 0 := by omega
  go_enter Tryd.func11, Tryd.ntmps11
  go_wp2
  go_ret
  exact ⟨rfl, (Below.refl _ _).alloc (Nat.le_refl _) _⟩
theorem begins_any (s : ByteArray) (i : Nat) (hi : i < s.size) (hs : s.size ≤ 140737488355328) (p : PD) (a : Option Addr) (m c : Nat) (w : World) (hp : byteOK p (s[i]'hi)) :
    Calls Tryd.prog 11 #[.string s, .agg #[.int .i64 p.kind, .string ⟨p.text.toArray⟩, .int .i64 p.num, .slice a m c], .int .i64 (i : Nat)] w fun e w' => e = .returned (.bool true) ∧ Below w.heap.size w w' := by
  obtain ⟨kind, text, num, kids⟩ := p
  unfold byteOK at hp
  simp only at hp ⊢
  have tn : ∀ x : UInt8, s[i]'hi = x → (s[i]'hi).toNat = x.toNat := fun x h => by rw [h]
  rcases hp with ⟨rfl, h⟩ | ⟨rfl, h⟩ | ⟨rfl, h⟩ | ⟨rfl, h | h | h | h⟩ | ⟨rfl, ⟨rfl, h⟩ | ⟨rfl, h⟩⟩ | ⟨rfl, h⟩ | ⟨rfl, h⟩ | ⟨rfl, h | h⟩ | ⟨rfl | rfl, h⟩ | ⟨rfl, h⟩ | ⟨rfl, h⟩ | ⟨rfl, h⟩ | ⟨rfl, h⟩ | ⟨rfl, h⟩ | ⟨rfl | rfl | rfl | rfl | rfl, ⟨rfl, h⟩ | ⟨rfl, h⟩ | ⟨rfl, h⟩⟩
  · exact begins_3_n_33 s i hi hs text num a m c w (tn _ h)
  · exact begins_4_n_38 s i hi hs text num a m c w (tn _ h)
  · exact begins_5_n_124 s i hi hs text num a m c w (tn _ h)
  · exact begins_6_n_61 s i hi hs text num a m c w (tn _ h)
  · exact begins_6_n_33 s i hi hs text num a m c w (tn _ h)
  · exact begins_6_n_60 s i hi hs text num a m c w (tn _ h)
  · exact begins_6_n_62 s i hi hs text num a m c w (tn _ h)
  · exact begins_7_0_105 s i hi hs text a m c w (tn _ h)
  · exact begins_7_1_110 s i hi hs text a m c w (tn _ h)
  · exact begins_13_n_123 s i hi hs text num a m c w (tn _ h)
  · exact begins_11_n_34 s i hi hs text num a m c w (tn _ h)
  · exact begins_12_n_45 s i hi hs text num a m c w (tn _ h)
  · unfold digB at h
    rw [Bool.and_eq_true, decide_eq_true_eq, decide_eq_true_eq] at h
    exact begins_12_n_dig s i hi hs text num a m c w h.1 h.2
  · exact begins_1_n_116 s i hi hs text num a m c w (tn _ h)
  · exact begins_10_n_116 s i hi hs text num a m c w (tn _ h)
  · exact begins_2_n_102 s i hi hs text num a m c w (tn _ h)
  · exact begins_8_n_110 s i hi hs text num a m c w (tn _ h)
  · exact begins_9_n_97 s i hi hs text num a m c w (tn _ h)
  · exact begins_19_n_105 s i hi hs text num a m c w (tn _ h)
  · exact begins_20_n_99 s i hi hs text num a m c w (tn _ h)
  · exact begins_14_2_110 s i hi hs text a m c w (tn _ h)
  · exact begins_14_1_112 s i hi hs text a m c w (tn _ h)
  · exact begins_14_3_105 s i hi hs text a m c w (tn _ h)
  · exact begins_15_2_110 s i hi hs text a m c w (tn _ h)
  · exact begins_15_1_112 s i hi hs text a m c w (tn _ h)
  · exact begins_15_3_105 s i hi hs text a m c w (tn _ h)
  · exact begins_16_2_110 s i hi hs text a m c w (tn _ h)
  · exact begins_16_1_112 s i hi hs text a m c w (tn _ h)
  · exact begins_16_3_105 s i hi hs text a m c w (tn _ h)
  · exact begins_17_2_110 s i hi hs text a m c w (tn _ h)
  · exact begins_17_1_112 s i hi hs text a m c w (tn _ h)
  · exact begins_17_3_105 s i hi hs text a m c w (tn _ h)
  · exact begins_18_2_110 s i hi hs text a m c w (tn _ h)
  · exact begins_18_1_112 s i hi hs text a m c w (tn _ h)
  · exact begins_18_3_105 s i hi hs text a m c w (tn _ h)

end Go.Proofs.YtghhnnbbjlipcaaDoor.X
