/-
  The walks of Unquote, of the reference's byteAt, escape, TextAt, Unquote.
-/
import Derived.Test.YtghhnnbbjlipcaaDoorLexQ
set_option linter.unusedVariables false
set_option linter.unusedSimpArgs false
namespace Go.Proofs.YtghhnnbbjlipcaaDoor.X
open Go.RowKit
/-- The byte at a place, 0 behind the end. -/
def atB (s : ByteArray) (k : Nat) : UInt8 := if h : k < s.size then s[k] else 0
theorem atB_lt {s : ByteArray} {k : Nat} (h : k < s.size) : atB s k = s[k] := by simp [atB, h]
theorem atB_ge {s : ByteArray} {k : Nat} (h : ¬ k < s.size) : atB s k = 0 := by simp [atB, h]
def escG (e a b : UInt8) : Option (UInt8 × Nat) :=
  if e = 34 ∨ e = 92 then some (e, 2) else if e = 110 then some (10, 2) else if e = 116 then some (9, 2) else if e = 114 then some (13, 2)
  else if e = 120 then if hexB a && hexB b then some (16 * hexV a + hexV b, 4) else none else none
theorem escG_eq (s : ByteArray) (i : Nat) : escL (s.data.toList.drop (i + 1)) = escG (atB s (i + 1)) (atB s (i + 2)) (atB s (i + 3)) := by
  by_cases h1 : i + 1 < s.size
  · rw [drop_at s (i + 1) h1, atB_lt h1]
    unfold escL escG
    by_cases h2 : i + 2 < s.size
    · rw [drop_at s (i + 1 + 1) h2, atB_lt h2]
      by_cases h3 : i + 3 < s.size
      · rw [drop_at s (i + 1 + 1 + 1) h3, atB_lt h3]
      · rw [drop_end s (i + 1 + 1 + 1) (by omega), atB_ge h3]
        have : hexB 0 = false := by decide
        simp [this]
    · have h3 : ¬ i + 3 < s.size := by omega
      rw [drop_end s (i + 1 + 1) (by omega), atB_ge h2, atB_ge h3]
      have : hexB 0 = false := by decide
      simp [this]
  · have h2 : ¬ i + 2 < s.size := by omega
    have h3 : ¬ i + 3 < s.size := by omega
    rw [drop_end s (i + 1) (by omega), atB_ge h1, atB_ge h2, atB_ge h3]
    decide

/-- What the reference's escape answers. -/
def refEscV (o : Option (UInt8 × Nat)) : Value := match o with
  | none => .tuple #[.int .u8 0, .int .i64 0]
  | some (b, n) => .tuple #[.int .u8 (b.toNat : Int), .int .i64 (n : Int)]
theorem hexI_all : ∀ n : Fin 256, hexI n.val.toUInt8 = if hexB n.val.toUInt8 then ((hexV n.val.toUInt8).toNat : Int) else -1 := by decide +kernel
theorem hexI_eq (c : UInt8) : hexI c = if hexB c then ((hexV c).toNat : Int) else -1 := by
  have := hexI_all ⟨c.toNat, c.toNat_lt⟩
  simpa using this
theorem hexI_pos (c : UInt8) (h : hexB c = true) : hexI c = ((hexV c).toNat : Int) := by rw [hexI_eq, h]; rfl
theorem hexI_neg (c : UInt8) (h : hexB c = false) : hexI c = -1 := by rw [hexI_eq, h]; rfl

theorem results_tmp4 {fn : Func} {t u v x : Tmp} (h : fn.results = #[.tmp t, .tmp u, .tmp v, .tmp x]) (tmps : Array Value) (P : Program) (w : World) :
    (results fn tmps).run P w = .ok (.tuple #[tmps.getD t undef, tmps.getD u undef, tmps.getD v undef, tmps.getD x undef]) w := by simp [results, h]
theorem own_none (w : World) : (w.alloc (.cells #[] 5)).ownsRow w.heap.size 5 1 (.slice (some ⟨w.heap.size, 0, none⟩) 0 0) ([] : Bs).length (Lib.byteCells []) := by
  have h := World.ownsRow_lit (base := w.heap.size) (e := 5) (size := 1) w #[] 0 (Nat.le_refl _) (by simp [maxLen]) (by simp)
  simpa [Lib.byteCells] using h
/-- What the reference's TextAt answers, of what the bytes come to. -/
def textV (i : Nat) : StrR → Value
  | .open_ => .tuple #[.string ⟨#[]⟩, .int .i64 0, .int .i64 112, .int .i64 i]
  | .byte p => .tuple #[.string ⟨#[]⟩, .int .i64 0, .int .i64 111, .int .i64 p]
  | .esc p => .tuple #[.string ⟨#[]⟩, .int .i64 0, .int .i64 113, .int .i64 p]
  | .done b e => if 127 < b.length then .tuple #[.string ⟨#[]⟩, .int .i64 0, .int .i64 115, .int .i64 i] else .tuple #[.string ⟨b.toArray⟩, .int .i64 (e : Nat), .int .i64 0, .int .i64 0]

end Go.Proofs.YtghhnnbbjlipcaaDoor.X
