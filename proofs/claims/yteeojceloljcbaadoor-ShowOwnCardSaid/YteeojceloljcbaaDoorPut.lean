/-
  The writer's put: the pieces one behind the other.
-/
import Derived.Test.YteeojceloljcbaaDoorBuilder
set_option linter.unusedVariables false
set_option linter.unusedSimpArgs false
namespace Go.Proofs.YteeojceloljcbaaDoor.H
open Go.RowKit
abbrev strObj (l : List ByteArray) : Obj := .cells (l.map Value.string).toArray 9
def flat (l : List ByteArray) : List UInt8 := l.flatMap (·.data.toList)
theorem flat_take_succ (l : List ByteArray) (k : Nat) (h : k < l.length) : flat (l.take (k + 1)) = flat (l.take k) ++ l[k].data.toList := by
  unfold flat
  rw [List.take_succ_eq_append_getElem h, List.flatMap_append, List.flatMap_singleton]
theorem flat_take_le (l : List ByteArray) (k : Nat) : (flat (l.take k)).length ≤ (flat l).length := by
  have : flat l = flat (l.take k) ++ flat (l.drop k) := by rw [flat, flat, flat, ← List.flatMap_append, List.take_append_drop]
  rw [this]; simp

set_option maxRecDepth 100000 in
theorem put_any (base b g : Nat) (ps : Value) (bs : List UInt8) (l : List ByteArray) (w : World) (h : IsW w base b ps bs) (hg : w.heap[g]? = some (strObj l)) (hgb : g ≠ b) (hn : l.length ≤ 1000)
    (hlen : bs.length + (flat l).length ≤ 140737488355328) (hBw : base ≤ w.heap.size) :
    Calls Tryd.prog 37 #[.pointer (some ⟨b, 0, none⟩), .slice (some ⟨g, 0, none⟩) l.length l.length] w fun e w' => e = .returned (.tuple #[]) ∧ IsW w' base b ps (bs ++ flat l) ∧ KW base b w w' := by
  go_enter Tryd.func37, Tryd.ntmps37
  go_wp2
  go_loopw [8] (fun i wr => ∃ k : Nat, k ≤ l.length ∧ i = .int .i64 k ∧ Hid (IsW wr base b ps (bs ++ flat (l.take k)) ∧ KW base b w wr)) (fun i _ => l.length - (intOf i).toNat)
  case atStart => exact ⟨0, Nat.zero_le _, rfl, Lib.hid ⟨by simpa [flat] using h, KW.refl _ _ _⟩⟩
  case round =>
    obtain ⟨k, hk, rfl, HI⟩ := hrel
    by_cases hlt : k < l.length
    · have hB : decide (k < l.length) = true := by simp; omega
      have hc : wr.cell? ⟨g, k, none⟩ = some (.string l[k]) := by
        rw [Lib.cell_of_heap (HI.out.2.block hg hgb (by decide))]; simp [hlt]
      have hsz : (bs ++ flat (l.take k)).length + l[k].size ≤ 140737488355328 := by
        have := flat_take_le l (k + 1)
        rw [flat_take_succ l k hlt] at this
        have e : l[k].size = l[k].data.toList.length := by rw [Array.length_toList]; rfl
        simp only [List.length_append] at this ⊢
        omega
      have HS := Lib.hid hsz
      have HFT := Lib.hid (flat_take_succ l k hlt)
      have hbs : base ≤ wr.heap.size := by have := HI.out.2.bel.size; omega
      clear hsz
      generalize hpk : l[k] = pk at *
      have HPK := Lib.hid hpk
      clear hpk
      go_wp2_with (go_at_call 53; refine (writeString_any base b ps _ _ _ HI.out.1 HS.out hbs).mono ?_; rintro e w1 ⟨rfl, h1, hk1⟩)
      go_roundw
      case rel => exact ⟨k + 1, by omega, by go_num, Lib.hid ⟨by rw [HFT.out, ← List.append_assoc]; exact h1, HI.out.2.trans hk1⟩⟩
      case measure => simp [intOf]; omega
    · have hB : decide (k < l.length) = false := by simp; omega
      obtain rfl : k = l.length := by omega
      go_wp2
      go_end0
      have := HI.out
      rw [List.take_length] at this
      exact ⟨rfl, this⟩

end Go.Proofs.YteeojceloljcbaaDoor.H
