/-
  The walks of IsFault, fixedQuote, LexQuotes.
-/
import Derived.Test.YthcdmnndhjbbfaaDoorLexV
set_option linter.unusedVariables false
set_option linter.unusedSimpArgs false
namespace Go.Proofs.YthcdmnndhjbbfaaDoor.X
open Go.RowKit
set_option maxRecDepth 100000 in
theorem isFault_nil (a : Int) (w : World) : Calls Tryd.prog 16 #[.nilIface, .int .i64 0, .int .i64 a] w fun e w' => e = .returned (.bool true) ∧ w = w' := by
  go_enter Tryd.func16, Tryd.ntmps16
  go_wp2
  go_ret
  exact ⟨rfl, rfl⟩
set_option maxHeartbeats 4000000 in
set_option maxRecDepth 100000 in
theorem isFault_some (b : Nat) (c a : Int) (hc : c ≠ 0) (w : World) (hb : w.heap[b]? = some (faultObj c a)) : Calls Tryd.prog 16 #[.iface 47 (.pointer (some ⟨b, 0, none⟩)), .int .i64 c, .int .i64 a] w fun e w' => e = .returned (.bool true) ∧ w = w' := by
  have z0 : w.cell? ⟨b, 0, none⟩ = some (.int .i64 c) := (Lib.cell_of_heap hb _).trans rfl
  have z1 : w.cell? ⟨b, 1, none⟩ = some (.int .i64 a) := (Lib.cell_of_heap hb _).trans rfl
  have z2 : w.cell? ⟨b, 2, none⟩ = some (.string ⟨#[]⟩) := (Lib.cell_of_heap hb _).trans rfl
  have z3 : w.cell? ⟨b, 3, none⟩ = some .nilIface := (Lib.cell_of_heap hb _).trans rfl
  have hc2 : (c == 0) = false := by simpa using hc
  clear hb hc
  have hta : ∀ (a : Addr) (w : World), (Instr.typeAssert (Value.iface 47 (.pointer (some a))) 26 47 true).run Tryd.prog w = .ok (.tuple #[.pointer (some a), .bool true]) w := fun _ _ => by kernel_rfl
  go_enter Tryd.func16, Tryd.ntmps16
  go_wp2
  go_ret
  exact ⟨rfl, rfl⟩
set_option maxHeartbeats 4000000 in
set_option maxRecDepth 100000 in
theorem fixedQuote_any (w : World) : Calls Tryd.prog 11 #[] w fun e w' => e = .returned (.bool true) ∧ Below w.heap.size w w' := by
  have U : Hid (∀ W, Calls Tryd.prog 14 #[.string ⟨#[34, 92, 120, 52, 49, 92, 110, 34]⟩] W fun e w' => e = .returned (.tuple #[.string ⟨#[65, 10]⟩, .nilIface]) ∧ Below W.heap.size W w') := Lib.hid fun W => by
    have h := unquote_any ⟨#[34, 92, 120, 52, 49, 92, 110, 34]⟩ W (by decide)
    have e : unqL (⟨#[34, 92, 120, 52, 49, 92, 110, 34]⟩ : ByteArray).data.toList = .ok [65, 10] := by
      simp only [unqL, textAt_eq]
      rw [if_neg (by decide), if_pos (by decide)]
      simp [List.drop, strL, strRes, unqC]
      rw [if_pos (by decide)]; rfl
    rw [e] at h
    exact h
  have Q : Hid (∀ W, Calls Tryd.prog 12 #[.string ⟨#[97, 34, 0, 255]⟩] W fun e w' => e = .returned (.string ⟨#[34, 97, 92, 34, 92, 120, 48, 48, 92, 120, 102, 102, 34]⟩) ∧ Below W.heap.size W w') := Lib.hid fun W => by
    have h := quote_any ⟨#[97, 34, 0, 255]⟩ W (by decide)
    have e : quoteL (⟨#[97, 34, 0, 255]⟩ : ByteArray).data.toList = [34, 97, 92, 34, 92, 120, 48, 48, 92, 120, 102, 102, 34] := by decide
    rw [e] at h
    exact h
  go_enter Tryd.func11, Tryd.ntmps11
  go_wp2_with (first | (go_at_call 14; refine (U.out _).mono ?_; rintro e w5 ⟨rfl, hB5⟩) | (go_at_call 12; refine (Q.out _).mono ?_; rintro e w6 ⟨rfl, hB6⟩))
  go_ret
  exact ⟨rfl, hB5.trans (hB6.mono hB5.size)⟩

end Go.Proofs.YthcdmnndhjbbfaaDoor.X
