/-
  The walk of LexFirst.
-/
import Derived.Test.YthcdmnndhjbbfaaDoorLawScans
import Derived.Test.YthcdmnndhjbbfaaDoorLexO
set_option linter.unusedVariables false
set_option linter.unusedSimpArgs false
namespace Go.Proofs.YthcdmnndhjbbfaaDoor.X
open Go.RowKit
theorem assert_fault (a : Addr) (w : World) : (Instr.typeAssert (Value.iface 47 (.pointer (some a))) 26 47 true).run Tryd.prog w = .ok (.tuple #[.pointer (some a), .bool true]) w := by kernel_rfl
theorem assert_nil (w : World) : (Instr.typeAssert Value.nilIface 26 47 true).run Tryd.prog w = .ok (.tuple #[.pointer none, .bool false]) w := by kernel_rfl

set_option maxHeartbeats 8000000 in
set_option maxRecDepth 100000 in
theorem lexFirst_any (s r : ByteArray) (w : World) (hs : s.size ≤ 140737488355328) (hr : r.size ≤ 140737488355328) (hL : LW w) :
    Calls Tryd.prog 7 #[.string s, .string r] w fun e w' => e = .returned (.bool true) ∧ Below w.heap.size w w' := by
  have HL := Lib.hid hL
  have S1 := Lib.hid (fun W h => scan_any s W (by omega) h)
  have hta := assert_fault
  have htn := assert_nil
  clear hL
  rcases scan_cases s.data.toList with ⟨ts, hq, hlen⟩ | ⟨c, at_, hq, hc0⟩
  · rw [hq] at S1
    clear hq
    go_enter Tryd.func7, Tryd.ntmps7
    go_wp2_with (first
      | (go_at_call 17; refine (fixed_any _ HL.out).mono ?_; rintro e w5 ⟨rfl, hF⟩; have HF := Lib.hid hF; clear hF)
      | (go_at_call 18; refine (S1.out _ (HL.out.below HF.out)).mono ?_; rintro e w1 ⟨hB1, v1, hO1, rfl⟩; have HB1 := Lib.hid hB1; clear hB1 hO1))
    go_ret
    exact ⟨rfl, HF.out.trans (HB1.out.mono HF.out.size)⟩
  · rw [hq] at S1
    have HQ := Lib.hid hq
    clear hq
    go_enter Tryd.func7, Tryd.ntmps7
    go_upto_region 4 with (first
      | (go_at_call 17; refine (fixed_any _ HL.out).mono ?_; rintro e w5 ⟨rfl, hF⟩; have HF := Lib.hid hF; clear hF)
      | (go_at_call 18; refine (S1.out _ (HL.out.below HF.out)).mono ?_; rintro e w1 ⟨hB1, b, rfl, hb1, hb2⟩; have HB1 := Lib.hid hB1; have HF1 := Lib.hid hb2; clear hB1 hb2))
    have z0 : w1.cell? ⟨b, 0, none⟩ = some (.int .i64 c) := (Lib.cell_of_heap HF1.out _).trans rfl
    have z1 : w1.cell? ⟨b, 1, none⟩ = some (.int .i64 (at_ : Nat)) := (Lib.cell_of_heap HF1.out _).trans rfl
    have HBB := Lib.hid (HF.out.trans (HB1.out.mono HF.out.size))
    by_cases h110 : c = 110
    · have e110 : (c == 110) = true := by simpa using h110
      clear h110
      go_wp2_with fail
      go_ret
      exact ⟨rfl, HBB.out⟩
    have n110 : (c == 110) = false := by simpa using h110
    by_cases h112 : c = 112
    · have e112 : (c == 112) = true := by simpa using h112
      clear h110 h112
      go_wp2_with fail
      go_ret
      exact ⟨rfl, HBB.out⟩
    have n112 : (c == 112) = false := by simpa using h112
    by_cases hlong : 4096 < s.size + 1 + r.size
    · have hI : (4096 : Int) < (s.size : Int) + 1 + (r.size : Int) := by omega
      clear h110 h112
      go_wp2_with fail
      go_ret
      exact ⟨rfl, HBB.out⟩
    · have hI : ¬ ((4096 : Int) < (s.size : Int) + 1 + (r.size : Int)) := by omega
      have hW : (s ++ ⟨#[32]⟩ ++ r).data.toList = s.data.toList ++ (32 :: r.data.toList) := by simp
      have hst := first_stays (x := 32 :: r.data.toList) HQ.out h110 h112 rfl (by simp; omega)
      rw [← hW, size_len] at hst
      have hsz : (s ++ ⟨#[32]⟩ ++ r).size ≤ 9223372036854775807 := by rw [ByteArray.size_append, ByteArray.size_append]; have : (⟨#[32]⟩ : ByteArray).size = 1 := rfl; omega
      have S2 := Lib.hid (fun W h => scan_any (s ++ ⟨#[32]⟩ ++ r) W hsz h)
      rw [hst.1] at S2
      have hat : ¬ ((s.size : Int) ≤ (at_ : Nat)) := by omega
      clear h110 h112 hW hsz hst
      go_upto_region 12 with fail
      go_wp2_with (go_at_call 18; refine (S2.out _ (HL.out.below HBB.out)).mono ?_; rintro e w6 ⟨hB6, b2, rfl, hb3, hb4⟩; have HB6 := Lib.hid hB6; have HF6 := Lib.hid hb4; have x0 := ((hB6.cell (p := ⟨b, 0, none⟩) (Array.getElem?_eq_some_iff.1 HF1.out).1)).trans z0; have x1 := ((hB6.cell (p := ⟨b, 1, none⟩) (Array.getElem?_eq_some_iff.1 HF1.out).1)).trans z1; clear hB6 hb4)
      have IQ := Lib.hid (fun n => isFault_some b2 c at_ hc0 (w6.drewN n) HF6.out)
      go_quiet ((go_at_call 16; exact Calls.quiet_of_same ((IQ.out _).mono (fun _ _ h => ⟨h.1, h.2.symm⟩))))
      go_wp2
      go_ret
      exact ⟨rfl, HBB.out.trans (below_drewN (HB6.out.mono HBB.out.size) _)⟩

end Go.Proofs.YthcdmnndhjbbfaaDoor.X
