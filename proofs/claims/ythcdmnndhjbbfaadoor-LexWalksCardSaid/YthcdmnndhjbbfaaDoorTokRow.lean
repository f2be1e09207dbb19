/-
  A row of tokens that grows; the faults' codes.
-/
import Derived.Test.YthcdmnndhjbbfaaDoorLexM
import Derived.Test.YthcdmnndhjbbfaaDoorLexX
set_option linter.unusedVariables false
set_option linter.unusedSimpArgs false
namespace Go.Proofs.YthcdmnndhjbbfaaDoor.X
open Go.RowKit
/-- The cells of a row of tokens. -/
def tokRow (ts : List Tk) : List Value := ts.flatMap fun t => (tokCells t).toList
theorem tokRow_len (ts : List Tk) : (tokRow ts).length = ts.length * 5 := by
  induction ts with
  | nil => rfl
  | cons t ts ih => simp only [tokRow, List.flatMap_cons, List.length_append, List.length_cons] at ih ⊢; rw [ih]; simp [tokCells]; omega
theorem tokRow_snoc (ts : List Tk) (t : Tk) : tokRow (ts ++ [t]) = tokRow ts ++ (tokCells t).toList := by simp [tokRow]
/-- A slice of tokens of the call's own. -/
abbrev TokSl (w : World) (base : Nat) (v : Value) (ts : List Tk) : Prop := w.ownsRow base 44 5 v ts.length (tokRow ts)
theorem infoTok : (Tryd.prog.info? 44).map (fun i => (i.zero, i.size, i.bytes)) = some (some (.agg zeroCells), 5, 48) := by kernel_rfl
/-- append of a token that stands in the last block. -/
theorem app_tok {ops : Array Oper} {rest : List Oper} {o : Oper} {a : Act} {Q : Exit → Act → World → Prop} {w0 W : World} (base : Nat) (hgd : o.guard = none) (s x : Operand)
    (ho : o.op = .call { callee := .builtin .append, args := #[s, x], argTypes := #[33, 33] })
    (v : Value) (ts : List Tk) (t : Tk) (cs : Array Value) (hcs : cs = tokCells t) (hs : a.eval s = v) (hx : a.eval x = .slice (some ⟨W.heap.size, 0, none⟩) 1 1)
    (HO : TokSl W base v ts) (HB : Below base w0 W) (hbase : base ≤ W.heap.size) (hl : ts.length ≤ 1000000000)
    (h : ∀ v1 w1, TokSl w1 base v1 (ts ++ [t]) → Below base w0 w1 → w1.heap.size ≥ W.heap.size + 1 → (∀ k, k < W.heap.size → some k ≠ v.ownBlock → w1.heap[k]? = W.heap[k]?) → (v1.ownBlock = v.ownBlock ∨ v1.ownBlock = some (W.heap.size + 1)) → wpList Tryd.prog ops Q rest (a.put o.dst v1) w1) :
    wpList Tryd.prog ops Q (o :: rest) a (W.alloc (.cells cs 44)) := by
  obtain ⟨i0, hi, hz0, hz1, hz2⟩ := info_parts infoTok
  subst hcs
  refine wpList_append_own_at (W.alloc (.cells (tokCells t) 44)) hgd s x 33 ho base 44 i0 (.agg zeroCells) 5 48 Tryd.underlying33 hi hz0 hz1 hz2 rfl (by omega) v ts.length _ hs (HO.alloc _) ⟨W.heap.size, 0, none⟩ 1 1 (tokCells t).toList hx (by simp [tokCells])
    (fun j u hu => World.news_of_block (cs := tokCells t) (t := 44) (fr := (0, 0)) (heap_alloc_new W _) j u hu) (by simp [tokCells, Value.oneCell']) (by simp only [maxLen]; omega) (by omega) (by simp; omega) ?_
  intro v1 w1 hown hg _ hat
  refine h v1 w1 (by rw [TokSl, tokRow_snoc, List.length_append]; exact hown) ((HB.alloc hbase _).grown hg (by simp; omega) (own_base HO)) (by have := hg.size; simpa using this) (fun k hk hne => (hg.block k (by simp; omega) hne).trans (Below.heap_alloc _ _ _ hk)) (by simpa using hat)
theorem strRes_code {i : Nat} {R : StrR} {c : Int} {a : Nat} (h : strRes i R = .error (c, a)) : c ≠ 0 := by
  cases R with
  | open_ => cases h; decide
  | byte p => cases h; decide
  | esc p => cases h; decide
  | done b e =>
    simp only [strRes] at h
    split at h
    · cases h; decide
    · cases h
theorem tokAt_code {l : Bs} {i : Nat} {c : Int} {a : Nat} (h : tokAt l i = .error (c, a)) : c ≠ 0 := by
  unfold tokAt at h
  split at h
  · cases h
  · split at h
    · rw [textAt_eq] at h; exact strRes_code h
    · rename_i c0 r0 _ _
      have fin : ∀ q : Bool, (if q = true then (match numOf (runL (c0 :: r0)) with
            | some n => (.ok ⟨2, [], n, i, i + (runL (c0 :: r0)).length⟩ : Res)
            | none => .error (114, i))
          else if wordB c0 then .ok ⟨3, runL (c0 :: r0), 0, i, i + (runL (c0 :: r0)).length⟩
          else match findMark (c0 :: r0) marksL with
            | some m => .ok ⟨4, m, 0, i, i + m.length⟩
            | none => .error (111, i)) = .error (c, a) → c ≠ 0 := by
        intro q h
        split at h
        · split at h
          · cases h
          · cases h; decide
        split at h
        · cases h
        split at h
        · cases h
        · cases h; decide
      exact fin _ h

theorem scanN_code (l : Bs) : ∀ (n i : Nat) {c : Int} {a : Nat}, (scanN l n i).2 = some (c, a) → c ≠ 0
  | 0, i, c, a, h => by simp [scanN] at h
  | n + 1, i, c, a, h => by
    cases hr : tokAt l (skipN l i) with
    | error f => rw [scanN_err hr] at h; injection h with h; subst h; exact tokAt_code hr
    | ok t =>
      by_cases hk : t.kind = 0
      · rw [scanN_end hr hk] at h; cases h
      · rw [scanN_ok hr hk] at h; exact scanN_code l n _ h
theorem prefix_code {l : Bs} {ts : List Tk} {c : Int} {a : Nat} (h : prefixL l = (ts, some (c, a))) : c ≠ 0 := by
  unfold prefixL at h
  split at h
  · cases h; decide
  · exact scanN_code l _ _ (congrArg Prod.snd h)


end Go.Proofs.YthcdmnndhjbbfaaDoor.X
