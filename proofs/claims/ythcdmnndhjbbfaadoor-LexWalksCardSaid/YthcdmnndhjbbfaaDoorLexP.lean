/-
  The walk of strconv.ParseUint at two digits of base sixteen.
-/
import Derived.Test.YthcdmnndhjbbfaaDoorLexD
import Derived.Lib.ConvBytes
import Derived.Lib.AtoiErrMem
import Derived.Below
set_option linter.unusedVariables false
set_option linter.unusedSimpArgs false
namespace Go.Proofs.YthcdmnndhjbbfaaDoor.X
open Go.RowKit
theorem lower_any (c : Int) (r : Int) (w : World) (h : Go.bits .or .u8 c 32 = r) : Calls Tryd.prog 67 #[.int .u8 c] w fun e w' => e = .returned (.int .u8 r) ∧ w = w' := by
  subst h
  go_enter Tryd.func67, Tryd.ntmps67
  go_wp2
  go_ret
  exact ⟨rfl, rfl⟩
theorem hexV_lt (c : UInt8) (h : hexB c = true) : (hexV c).toNat < 16 := by
  have : ∀ n : Fin 256, hexB n.val.toUInt8 = true → (hexV n.val.toUInt8).toNat < 16 := by decide +kernel
  have h2 := this ⟨c.toNat, c.toNat_lt⟩
  simp only [Nat.toUInt8_eq, UInt8.ofNat_toNat] at h2
  exact h2 h
/-- A digit of base sixteen: of which range, what its worth is. -/
theorem hex_class (c : UInt8) (h : hexB c = true) : ((48 : Int) ≤ (c.toNat : Int) ∧ (c.toNat : Int) ≤ 57 ∧ ((hexV c).toNat : Int) = (c.toNat : Int) - 48) ∨ (58 ≤ (c.toNat : Int) ∧ (c.toNat : Int) ≤ 102 ∧ (c.toNat : Int) ≠ 95 ∧ ∃ r : Int, Go.bits .or .u8 (c.toNat : Int) 32 = r ∧ 97 ≤ r ∧ r ≤ 102 ∧ ((hexV c).toNat : Int) = r - 87) := by
  have : ∀ n : Fin 256, hexB n.val.toUInt8 = true → ((48 ≤ n.val ∧ n.val ≤ 57 ∧ (hexV n.val.toUInt8).toNat + 48 = n.val) ∨ (58 ≤ n.val ∧ n.val ≤ 102 ∧ n.val ≠ 95 ∧ Go.bits .or .u8 (n.val : Int) 32 = (((hexV n.val.toUInt8).toNat + 87 : Nat) : Int) ∧ 97 ≤ (hexV n.val.toUInt8).toNat + 87 ∧ (hexV n.val.toUInt8).toNat + 87 ≤ 102)) := by decide +kernel
  have h2 := this ⟨c.toNat, c.toNat_lt⟩
  simp only [Nat.toUInt8_eq, UInt8.ofNat_toNat] at h2
  rcases h2 h with ⟨h3, h4, h5⟩ | ⟨h3, h4, h5, h6, h7, h8⟩
  · exact .inl ⟨by omega, by omega, by omega⟩
  · exact .inr ⟨by omega, by omega, by omega, _, h6, by omega, by omega, by omega⟩

set_option maxHeartbeats 4000000 in
set_option maxRecDepth 100000 in
theorem parseIn (a b : UInt8) (ha : hexB a = true) (hb : hexB b = true) (w : World) :
    Calls Tryd.prog 58 #[.string ⟨#[a, b]⟩, .int .i64 16, .int .i64 8] w fun e w' => e = .returned (.tuple #[.int .u64 (((hexV a).toNat : Int) * 16 + ((hexV b).toNat : Int)), .nilIface]) ∧ Below w.heap.size w w' := by
  have hcv := Lib.run_convert_string_bytes (P := Tryd.prog) w 9 57 5 ⟨#[a, b]⟩ Tryd.underlying9 Tryd.underlying57 Tryd.underlying5
  have hva := hexV_lt a ha
  have hvb := hexV_lt b hb
  have KA := Lib.hid (hex_class a ha)
  have KB := Lib.hid (hex_class b hb)
  have B1 := Lib.hid (Lib.bytesWorld_below w 5 ⟨#[a, b]⟩)
  have ca : (Lib.bytesWorld w 5 ⟨#[a, b]⟩).cell? ⟨w.heap.size, 0, none⟩ = some (.int .u8 (a.toNat : Int)) := Lib.bytesWorld_cell w 5 ⟨#[a, b]⟩ 0 (show 0 < 2 by decide)
  have cb : (Lib.bytesWorld w 5 ⟨#[a, b]⟩).cell? ⟨w.heap.size, 1, none⟩ = some (.int .u8 (b.toNat : Int)) := Lib.bytesWorld_cell w 5 ⟨#[a, b]⟩ 1 (show 1 < 2 by decide)
  obtain ⟨x, hx⟩ : ∃ x : Int, x = ((hexV a).toNat : Int) := ⟨_, rfl⟩
  obtain ⟨y, hy⟩ : ∃ y : Int, y = ((hexV b).toNat : Int) := ⟨_, rfl⟩
  rw [← hx, ← hy]
  have hx0 : 0 ≤ x := by omega
  have hx1 : x ≤ 15 := by omega
  have hy0 : 0 ≤ y := by omega
  have hy1 : y ≤ 15 := by omega
  rw [← hx] at KA
  rw [← hy] at KB
  have CA := Lib.hid ca
  have CB := Lib.hid cb
  clear ha hb hva hvb hx hy ca cb
  have LA := Lib.hid (fun (c r : Int) (W : World) (h : Go.bits .or .u8 c 32 = r) => lower_any c r W h)
  go_enter Tryd.func58, Tryd.ntmps58
  go_wp2
  clear hcv
  generalize Lib.bytesWorld w 5 ⟨#[a, b]⟩ = w1 at *
  go_loop [12, 13, 101] (fun u n i => u = .bool false ∧ ((n = .int .u64 0 ∧ i = .int .i64 0) ∨ (n = .int .u64 x ∧ i = .int .i64 1) ∨ (n = .int .u64 (x * 16 + y) ∧ i = .int .i64 2))) (fun _ _ i => 2 - (intOf i).toNat)
  case atStart => exact ⟨rfl, .inl ⟨rfl, rfl⟩⟩
  case round =>
    rcases hrel with ⟨rfl, ⟨rfl, rfl⟩ | ⟨rfl, rfl⟩ | ⟨rfl, rfl⟩⟩
    · have ca := CA.out
      rcases KA.out with ⟨h1, h2, h3⟩ | ⟨h1, h2, h3, r, h4, h5, h6, h7⟩
      · generalize (a.toNat : Int) = c at *
        obtain rfl : c = x + 48 := by omega
        have n95 : ((x + 48 : Int) == 95) = false := by simp; omega
        clear h3
        go_wp2
        go_round
        case rel => exact ⟨rfl, .inr (.inl ⟨by go_num, rfl⟩)⟩
        case measure => simp [intOf]
      · have n95 : (((a.toNat : Int)) == 95) = false := by simpa using h3
        have h2' : ¬ ((a.toNat : Int) ≤ 57) := by omega
        have L1 := Lib.hid (fun W => LA.out _ r W h4)
        generalize (a.toNat : Int) = c at *
        obtain rfl : r = x + 87 := by omega
        clear h4 h3 h7
        go_wp2_with (go_at_call 67; refine (L1.out _).mono ?_; rintro e w5 ⟨rfl, rfl⟩)
        go_round
        case rel => exact ⟨rfl, .inr (.inl ⟨by go_num, rfl⟩)⟩
        case measure => simp [intOf]
    · have cb := CB.out
      rcases KB.out with ⟨h1, h2, h3⟩ | ⟨h1, h2, h3, r, h4, h5, h6, h7⟩
      · generalize (b.toNat : Int) = c at *
        obtain rfl : c = y + 48 := by omega
        have n95 : ((y + 48 : Int) == 95) = false := by simp; omega
        clear h3
        go_wp2
        go_round
        case rel => exact ⟨rfl, .inr (.inr ⟨by go_num, rfl⟩)⟩
        case measure => simp [intOf]
      · have n95 : (((b.toNat : Int)) == 95) = false := by simpa using h3
        have h2' : ¬ ((b.toNat : Int) ≤ 57) := by omega
        have L1 := Lib.hid (fun W => LA.out _ r W h4)
        generalize (b.toNat : Int) = c at *
        obtain rfl : r = y + 87 := by omega
        clear h4 h3 h7
        go_wp2_with (go_at_call 67; refine (L1.out _).mono ?_; rintro e w5 ⟨rfl, rfl⟩)
        go_round
        case rel => exact ⟨rfl, .inr (.inr ⟨by go_num, rfl⟩)⟩
        case measure => simp [intOf]
    · go_wp2
      go_ret2
      exact ⟨rfl, B1.out⟩

set_option maxRecDepth 100000 in
theorem parse_any (a b : UInt8) (ha : hexB a = true) (hb : hexB b = true) (w : World) :
    Calls Tryd.prog 49 #[.string ⟨#[a, b]⟩, .int .i64 16, .int .i64 8] w fun e w' => e = .returned (.tuple #[.int .u64 (((hexV a).toNat : Int) * 16 + ((hexV b).toNat : Int)), .nilIface]) ∧ Below w.heap.size w w' := by
  have PI := Lib.hid (fun W => parseIn a b ha hb W)
  clear ha hb
  go_enter Tryd.func49, Tryd.ntmps49
  go_wp2_with (go_at_call 58; refine (PI.out _).mono ?_; rintro e w5 ⟨rfl, hB⟩)
  go_ret2
  exact ⟨rfl, hB⟩

end Go.Proofs.YthcdmnndhjbbfaaDoor.X
