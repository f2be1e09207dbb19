/-
  The walks of the reference's Prefix and Scan; a row of tokens that grows.
-/
import Derived.Test.YthcdmnndhjbbfaaDoorLexI
import Derived.Test.YthcdmnndhjbbfaaDoorLexG
import Derived.Test.YthcdmnndhjbbfaaDoorLexX
set_option linter.unusedVariables false
set_option linter.unusedSimpArgs false
namespace Go.Proofs.YthcdmnndhjbbfaaDoor.X
open Go.RowKit

/-- The cells of a row of tokens. -/
def tokRow (ts : List Tk) : List Value := ts.flatMap fun t => (tokCells t).toList
theorem tokRow_len (ts : List Tk) : (tokRow ts).length = ts.length * 5 := by
  induction ts with
  | nil => rfl
  | cons t ts ih => simp only [tokRow, List.flatMap_cons, List.length_append, List.length_cons] at ih ⊢; rw [ih]; simp [tokCells]; omega
theorem tokRow_snoc (ts : List Tk) (t : Tk) : tokRow (ts ++ [t]) = tokRow ts ++ (tokCells t).toList := by simp [tokRow]
/-- A slice of tokens of the call's own. -/
abbrev TokSl (w : World) (base : Nat) (v : Value) (ts : List Tk) : Prop := w.ownsRow base 44 5 v ts.length (tokRow ts)
theorem infoTok : (Tryd.prog.info? 44).map (fun i => (i.zero, i.size, i.bytes)) = some (some (.agg zeroCells), 5, 48) := by kernel_rfl
/-- append of a token that stands in the last block. -/
theorem app_tok {ops : Array Oper} {rest : List Oper} {o : Oper} {a : Act} {Q : Exit → Act → World → Prop} {w0 W : World} (base : Nat) (hgd : o.guard = none) (s x : Operand)
    (ho : o.op = .call { callee := .builtin .append, args := #[s, x], argTypes := #[33, 33] })
    (v : Value) (ts : List Tk) (t : Tk) (cs : Array Value) (hcs : cs = tokCells t) (hs : a.eval s = v) (hx : a.eval x = .slice (some ⟨W.heap.size, 0, none⟩) 1 1)
    (HO : TokSl W base v ts) (HB : Below base w0 W) (hbase : base ≤ W.heap.size) (hl : ts.length ≤ 1000000000)
    (h : ∀ v1 w1, TokSl w1 base v1 (ts ++ [t]) → Below base w0 w1 → w1.heap.size ≥ W.heap.size + 1 → (∀ k, k < W.heap.size → some k ≠ v.ownBlock → w1.heap[k]? = W.heap[k]?) → (v1.ownBlock = v.ownBlock ∨ v1.ownBlock = some (W.heap.size + 1)) → wpList Tryd.prog ops Q rest (a.put o.dst v1) w1) :
    wpList Tryd.prog ops Q (o :: rest) a (W.alloc (.cells cs 44)) := by
  obtain ⟨i0, hi, hz0, hz1, hz2⟩ := info_parts infoTok
  subst hcs
  refine wpList_append_own_at (W.alloc (.cells (tokCells t) 44)) hgd s x 33 ho base 44 i0 (.agg zeroCells) 5 48 Tryd.underlying33 hi hz0 hz1 hz2 rfl (by omega) v ts.length _ hs (HO.alloc _) ⟨W.heap.size, 0, none⟩ 1 1 (tokCells t).toList hx (by simp [tokCells])
    (fun j u hu => World.news_of_block (cs := tokCells t) (t := 44) (fr := (0, 0)) (heap_alloc_new W _) j u hu) (by simp [tokCells, Value.oneCell']) (by simp only [maxLen]; omega) (by omega) (by simp; omega) ?_
  intro v1 w1 hown hg _ hat
  refine h v1 w1 (by rw [TokSl, tokRow_snoc, List.length_append]; exact hown) ((HB.alloc hbase _).grown hg (by simp; omega) (own_base HO)) (by have := hg.size; simpa using this) (fun k hk hne => (hg.block k (by simp; omega) hne).trans (Below.heap_alloc _ _ _ hk)) (by simpa using hat)
/-- A fault's code and place; 0 and 0 of none. -/
def codeOf : Option (Int × Nat) → Int
  | none => 0
  | some f => f.1
def placeOf : Option (Int × Nat) → Int
  | none => 0
  | some f => (f.2 : Nat)
/-- What Prefix and Scan of the reference answer. -/
def PreAns (w : World) (r : List Tk × Option (Int × Nat)) (e : Ending) (w' : World) : Prop :=
  ∃ v, TokSl w' w.heap.size v r.1 ∧ Below w.heap.size w w' ∧ e = .returned (.tuple #[v, .int .i64 (codeOf r.2), .int .i64 (placeOf r.2)])
theorem strRes_code {i : Nat} {R : StrR} {c : Int} {a : Nat} (h : strRes i R = .error (c, a)) : c ≠ 0 := by
  cases R with
  | open_ => cases h; decide
  | byte p => cases h; decide
  | esc p => cases h; decide
  | done b e =>
    simp only [strRes] at h
    split at h
    · cases h; decide
    · cases h
theorem tokAt_code {l : Bs} {i : Nat} {c : Int} {a : Nat} (h : tokAt l i = .error (c, a)) : c ≠ 0 := by
  unfold tokAt at h
  split at h
  · cases h
  · split at h
    · rw [textAt_eq] at h; exact strRes_code h
    · rename_i c0 r0 _ _
      have fin : ∀ q : Bool, (if q = true then (match numOf (runL (c0 :: r0)) with
            | some n => (.ok ⟨2, [], n, i, i + (runL (c0 :: r0)).length⟩ : Res)
            | none => .error (114, i))
          else if wordB c0 then .ok ⟨3, runL (c0 :: r0), 0, i, i + (runL (c0 :: r0)).length⟩
          else match findMark (c0 :: r0) marksL with
            | some m => .ok ⟨4, m, 0, i, i + m.length⟩
            | none => .error (111, i)) = .error (c, a) → c ≠ 0 := by
        intro q h
        split at h
        · split at h
          · cases h
          · cases h; decide
        split at h
        · cases h
        split at h
        · cases h
        · cases h; decide
      exact fin _ h

theorem scanN_code (l : Bs) : ∀ (n i : Nat) {c : Int} {a : Nat}, (scanN l n i).2 = some (c, a) → c ≠ 0
  | 0, i, c, a, h => by simp [scanN] at h
  | n + 1, i, c, a, h => by
    cases hr : tokAt l (skipN l i) with
    | error f => rw [scanN_err hr] at h; injection h with h; subst h; exact tokAt_code hr
    | ok t =>
      by_cases hk : t.kind = 0
      · rw [scanN_end hr hk] at h; cases h
      · rw [scanN_ok hr hk] at h; exact scanN_code l n _ h
theorem prefix_code {l : Bs} {ts : List Tk} {c : Int} {a : Nat} (h : prefixL l = (ts, some (c, a))) : c ≠ 0 := by
  unfold prefixL at h
  split at h
  · cases h; decide
  · exact scanN_code l _ _ (congrArg Prod.snd h)

set_option maxHeartbeats 8000000 in
set_option maxRecDepth 100000 in
theorem refPrefix_any (s : ByteArray) (w : World) (hs : s.size ≤ 9223372036854775807) :
    Calls Tryd.prog 21 #[.string s] w (PreAns w (prefixL s.data.toList)) := by
  by_cases hlong : 4096 < s.size
  · have hI : (4096 : Int) < (s.size : Int) := by omega
    have hR : prefixL s.data.toList = ([], some (110, 4096)) := by unfold prefixL; rw [size_len, if_pos hlong]
    rw [hR]
    clear hR hlong
    go_enter Tryd.func21, Tryd.ntmps21
    go_wp2
    go_ret3
    exact ⟨_, World.ownsRow_nil _ _ _ _, Below.refl _ _, rfl⟩
  · have hI : ¬ ((4096 : Int) < (s.size : Int)) := by omega
    obtain ⟨R, hR⟩ : ∃ R, R = scanN s.data.toList (s.data.toList.length + 1) 0 := ⟨_, rfl⟩
    have hR2 : prefixL s.data.toList = R := by unfold prefixL; rw [size_len, if_neg hlong, hR, size_len]
    rw [hR2]
    have HR := Lib.hid hR
    have hs2 : s.size ≤ 4096 := by omega
    clear hR hR2 hlong hs
    go_enter Tryd.func21, Tryd.ntmps21
    go_wp2
    go_loopw [5, 6] (fun v i wr => ∃ (k m : Nat) (acc : List Tk), k ≤ s.size ∧ acc.length ≤ k ∧ i = .int .i64 k ∧ Hid (s.size + 1 ≤ m + k) ∧ Hid (R = (acc ++ (scanN s.data.toList m k).1, (scanN s.data.toList m k).2)) ∧ Hid (TokSl wr w.heap.size v acc) ∧ Hid (Below w.heap.size w wr)) (fun _ i _ => s.size - (intOf i).toNat)
    case atStart => exact ⟨0, s.size + 1, [], by omega, by simp, rfl, Lib.hid (by omega), Lib.hid (by rw [HR.out, size_len]; rfl), Lib.hid (by have := World.ownsRow_made (e := 44) (size := 5) w #[] 0 (Nat.le_refl _) (by simp [maxLen]) rfl; exact this), Lib.hid ((Below.refl _ _).alloc (Nat.le_refl _) _)⟩
    case round =>
      obtain ⟨k, m, acc, hk, ha, rfl, HM, HK, HO, HB⟩ := hrel
      clear HR
      have hbs := HB.out.size
      have hsk : skipN s.data.toList k ≤ s.size := by have := skipN_le (l := s.data.toList) (i := k) (by rw [size_len]; exact hk); rwa [size_len] at this
      have hskg := skipN_ge s.data.toList k
      have GC := Lib.hid (fun W => refGap_any s k W (by omega) hk)
      have TC := Lib.hid (fun W => refTok_any s (skipN s.data.toList k) W (by omega) hsk)
      obtain ⟨m, rfl⟩ : ∃ m', m = m' + 1 := ⟨m - 1, by have := HM.out; omega⟩
      obtain ⟨r, hr⟩ : ∃ r, r = tokAt s.data.toList (skipN s.data.toList k) := ⟨_, rfl⟩
      rw [← hr] at TC
      obtain ⟨i, hi⟩ : ∃ i, i = skipN s.data.toList k := ⟨_, rfl⟩
      have GC2 : Hid (∀ W, Calls Tryd.prog 30 #[.string s, .int .i64 k] W fun e w' => e = .returned (.int .i64 i) ∧ W = w') := Lib.hid (by rw [hi]; exact GC.out)
      rw [← hi] at hsk hskg TC hr
      clear GC
      cases r with
      | error f =>
        obtain ⟨c, a⟩ := f
        have hc : (c != 0) = true := by simpa using tokAt_code hr.symm
        have HE : Hid (R = (acc, some (c, a))) := Lib.hid (by rw [HK.out, scanN_err (f := (c, a)) (by rw [← hi]; exact hr.symm)]; simp)
        clear hi hr
        go_wp2_with (first | (go_at_call 30; refine (GC2.out _).mono ?_; rintro e w3 ⟨rfl, rfl⟩) | (go_at_call 31; refine (TC.out _).mono ?_; rintro e w4 ⟨hB4, rfl⟩; have HB4 := Lib.hid hB4; have hz4 := hB4.size; clear hB4))
        (try simp only [Exit.inBlock, Exit.then]); go_ret3
        rw [HE.out]
        exact ⟨_, ((HO.out.kept (row := none) ⟨HB4.out.os, HB4.out.tape, HB4.out.output, HB4.out.size, fun i hi _ => HB4.out.block i hi⟩ (by cases Value.ownBlock _ <;> simp)).alloc _), (HB.out.trans (HB4.out.mono hbs)).alloc (by omega) _, rfl⟩
      | ok t =>
        have HN : Hid (∀ w4 : World, wr.heap.size ≤ w4.heap.size → some w4.heap.size ≠ Value.ownBlock _) := Lib.hid (fun w4 h4 e => by have := (HO.out.lt _ e.symm).2; omega)
        by_cases hk0 : t.kind = 0
        · have e0 : ((t.kind : Int) == 0) = true := by simpa using hk0
          have HE : Hid (R = (acc ++ [t], none)) := Lib.hid (by rw [HK.out, scanN_end (by rw [← hi]; exact hr.symm) hk0])
          clear hk0 hi hr
          go_wp2_with (first | (go_at_call 30; refine (GC2.out _).mono ?_; rintro e w3 ⟨rfl, rfl⟩) | (go_at_call 31; refine (TC.out _).mono ?_; rintro e w4 ⟨hB4, he⟩; simp only [tokV, tokCells] at he; subst he; have HB4 := Lib.hid hB4; have hz4 := hB4.size; have HO4 := Lib.hid ((HO.out.kept (row := none) ⟨hB4.os, hB4.tape, hB4.output, hB4.size, fun i hi _ => hB4.block i hi⟩ (by cases Value.ownBlock _ <;> simp)).alloc (.cells (tokCells t) 44)); have HBB := Lib.hid ((HB.out.trans (hB4.mono hbs)).alloc (by omega) (.cells (tokCells t) 44)); have hne := HN.out w4 hz4; clear hB4) | (at_builtin; go_loud (refine app_tok w.heap.size rfl (.tmp 29) (.tmp 31) rfl _ acc t _ rfl rfl (by simp [Act.eval]) HO4.out HBB.out (by simp; omega) (by omega) ?_; intro v1 w1 hown hb1 hz1 hk1 _; have tz1 := (hk1 w4.heap.size (by simp) hne).trans (Go.heap_alloc_new w4 _); have y0 : w1.cell? ⟨w4.heap.size, 0, none⟩ = some (.int .i64 t.kind) := (Lib.cell_of_heap tz1 _).trans rfl; have y4 : w1.cell? ⟨w4.heap.size, 4, none⟩ = some (.int .i64 t.end_) := (Lib.cell_of_heap tz1 _).trans rfl; have HO1 := Lib.hid hown; have HB1 := Lib.hid hb1; clear hown hb1 hk1 tz1)))
          (try simp only [Exit.inBlock, Exit.then]); go_ret3
          rw [HE.out]
          exact ⟨_, HO1.out, HB1.out, rfl⟩
        · have e0 : ((t.kind : Int) == 0) = false := by simpa using hk0
          have hb := tok_cases (i := i) (by rw [size_len]; exact hsk) hr.symm hk0
          have HE : Hid (R = (acc ++ [t] ++ (scanN s.data.toList m t.end_).1, (scanN s.data.toList m t.end_).2)) := Lib.hid (by rw [HK.out, scanN_ok (by rw [← hi]; exact hr.symm) hk0]; simp)
          have hb2 := hb.2.1
          have hb3 := hb.2.2
          rw [size_len] at hb3
          clear hk0 hi hr hb
          go_wp2_with (first | (go_at_call 30; refine (GC2.out _).mono ?_; rintro e w3 ⟨rfl, rfl⟩) | (go_at_call 31; refine (TC.out _).mono ?_; rintro e w4 ⟨hB4, he⟩; simp only [tokV, tokCells] at he; subst he; have HB4 := Lib.hid hB4; have hz4 := hB4.size; have HO4 := Lib.hid ((HO.out.kept (row := none) ⟨hB4.os, hB4.tape, hB4.output, hB4.size, fun i hi _ => hB4.block i hi⟩ (by cases Value.ownBlock _ <;> simp)).alloc (.cells (tokCells t) 44)); have HBB := Lib.hid ((HB.out.trans (hB4.mono hbs)).alloc (by omega) (.cells (tokCells t) 44)); have hne := HN.out w4 hz4; clear hB4) | (at_builtin; go_loud (refine app_tok w.heap.size rfl (.tmp 29) (.tmp 31) rfl _ acc t _ rfl rfl (by simp [Act.eval]) HO4.out HBB.out (by simp; omega) (by omega) ?_; intro v1 w1 hown hb1 hz1 hk1 _; have tz1 := (hk1 w4.heap.size (by simp) hne).trans (Go.heap_alloc_new w4 _); have y0 : w1.cell? ⟨w4.heap.size, 0, none⟩ = some (.int .i64 t.kind) := (Lib.cell_of_heap tz1 _).trans rfl; have y4 : w1.cell? ⟨w4.heap.size, 4, none⟩ = some (.int .i64 t.end_) := (Lib.cell_of_heap tz1 _).trans rfl; have HO1 := Lib.hid hown; have HB1 := Lib.hid hb1; clear hown hb1 hk1 tz1)))
          go_roundw
          case rel => exact ⟨t.end_, m, acc ++ [t], hb3, by simp; omega, rfl, Lib.hid (by have := HM.out; omega), HE, HO1, HB1⟩
          case measure => simp [intOf]; omega
theorem refScan_any (s : ByteArray) (w : World) (hs : s.size ≤ 9223372036854775807) :
    Calls Tryd.prog 19 #[.string s] w (PreAns w (scanL s.data.toList)) := by
  have PC := Lib.hid (fun W => refPrefix_any s W hs)
  obtain ⟨R, hR⟩ : ∃ R, R = prefixL s.data.toList := ⟨_, rfl⟩
  unfold scanL
  rw [← hR] at PC ⊢
  obtain ⟨ts, f⟩ := R
  cases f with
  | none =>
    simp only [Option.isSome_none, Bool.false_eq_true, if_false]
    clear hR
    go_enter Tryd.func19, Tryd.ntmps19
    go_wp2_with (go_at_call 21; refine (PC.out _).mono ?_; rintro e w2 ⟨v, hO, hB, rfl⟩; have HO := Lib.hid hO; have HB := Lib.hid hB; clear hO hB; simp only [codeOf, placeOf])
    go_ret3
    exact ⟨_, HO.out, HB.out, rfl⟩
  | some f =>
    obtain ⟨c, a⟩ := f
    simp only [Option.isSome_some, if_true]
    have hc : (c != 0) = true := by simpa using prefix_code hR.symm
    clear hR
    go_enter Tryd.func19, Tryd.ntmps19
    go_wp2_with (go_at_call 21; refine (PC.out _).mono ?_; rintro e w2 ⟨v, hO, hB, rfl⟩; have HO := Lib.hid hO; have HB := Lib.hid hB; clear hO hB; simp only [codeOf, placeOf])
    go_ret3
    exact ⟨_, World.ownsRow_nil _ _ _ _, HB.out, rfl⟩
end Go.Proofs.YthcdmnndhjbbfaaDoor.X
