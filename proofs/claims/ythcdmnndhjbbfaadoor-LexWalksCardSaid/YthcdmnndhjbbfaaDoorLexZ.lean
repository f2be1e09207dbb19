/-
  Plain law: a token depends on its own bytes and on what separates it alone.
-/
import Derived.Test.YthcdmnndhjbbfaaDoorLexX
set_option linter.unusedVariables false
set_option linter.unusedSimpArgs false
namespace Go.Proofs.YthcdmnndhjbbfaaDoor.X
def shT (k : Nat) (t : Tk) : Tk := { t with at_ := t.at_ + k, end_ := t.end_ + k }
def shR (k : Nat) : Res → Res
  | .ok t => .ok (shT k t)
  | .error f => .error (f.1, f.2 + k)
def shS (k : Nat) : StrR → StrR
  | .open_ => .open_
  | .byte p => .byte (p + k)
  | .esc p => .esc (p + k)
  | .done b e => .done b (e + k)
/-- One step of a text's reading: the byte read and how many bytes it took. -/
def escOf : Bs → Option (UInt8 × Nat)
  | [] => none
  | e :: l =>
    if e = 34 ∨ e = 92 then some (e, 1)
    else if e = 110 then some (10, 1)
    else if e = 116 then some (9, 1)
    else if e = 114 then some (13, 1)
    else if e = 120 then
      match l with
      | h1 :: h2 :: _ => if hexB h1 && hexB h2 then some (16 * hexV h1 + hexV h2, 3) else none
      | _ => none
    else none
theorem escOf_len {l : Bs} {b : UInt8} {n : Nat} (h : escOf l = some (b, n)) : 0 < n ∧ n ≤ l.length := by
  cases l with
  | nil => cases h
  | cons e l =>
    simp only [escOf] at h
    split at h
    · cases h; simp
    split at h
    · cases h; simp
    split at h
    · cases h; simp
    split at h
    · cases h; simp
    split at h
    · cases l with
      | nil => cases h
      | cons h1 l =>
        cases l with
        | nil => cases h
        | cons h2 l =>
          simp only at h
          split at h
          · cases h; simp
          · cases h
    · cases h
theorem strL_cons (c : UInt8) (l : Bs) (off : Nat) (acc : Bs) : strL (c :: l) off acc =
    if c = 34 then .done acc (off + 1) else if c < 32 then .byte off else if c = 92 then (match escOf l with
      | some (b, n) => strL (l.drop n) (off + 1 + n) (acc ++ [b])
      | none => .esc off) else strL l (off + 1) (acc ++ [c]) := by
  rw [strL.eq_def]
  simp only
  by_cases h1 : c = 34
  · simp only [if_pos h1]
  simp only [if_neg h1]
  by_cases h2 : c < 32
  · simp only [if_pos h2]
  simp only [if_neg h2]
  by_cases h3 : c = 92
  · simp only [if_pos h3]
    cases l with
    | nil => rfl
    | cons e l =>
      simp only [escOf]
      by_cases k1 : e = 34 ∨ e = 92
      · simp only [if_pos k1]; rfl
      simp only [if_neg k1]
      by_cases k2 : e = 110
      · simp only [if_pos k2]; rfl
      simp only [if_neg k2]
      by_cases k3 : e = 116
      · simp only [if_pos k3]; rfl
      simp only [if_neg k3]
      by_cases k4 : e = 114
      · simp only [if_pos k4]; rfl
      simp only [if_neg k4]
      by_cases k5 : e = 120
      · simp only [if_pos k5]
        cases l with
        | nil => rfl
        | cons h1 l =>
          cases l with
          | nil => rfl
          | cons h2 l =>
            simp only
            by_cases k6 : (hexB h1 && hexB h2) = true
            · simp only [if_pos k6]; rfl
            · simp only [if_neg k6]
      · simp only [if_neg k5]
  · simp only [if_neg h3]
theorem strL_shift (k : Nat) : ∀ (n : Nat) (l : Bs) (off : Nat) (acc : Bs), l.length ≤ n → strL l (off + k) acc = shS k (strL l off acc)
  | n, [], off, acc, hn => by simp [strL, shS]
  | 0, c :: l, off, acc, hn => by simp at hn
  | n + 1, c :: l, off, acc, hn => by
    simp only [List.length_cons] at hn
    rw [strL_cons, strL_cons]
    split
    · simp only [shS]; congr 1; omega
    split
    · rfl
    split
    · cases he : escOf l with
      | none => rfl
      | some p =>
        obtain ⟨b, m⟩ := p
        have := escOf_len he
        simp only
        rw [show off + k + 1 + m = off + 1 + m + k by omega]
        exact strL_shift k n _ _ _ (by rw [List.length_drop]; omega)
    · rw [show off + k + 1 = off + 1 + k by omega]
      exact strL_shift k n _ _ _ (by omega)
/-- What may stand behind a token: nothing, a blank, a remark. -/
def sepB (c : UInt8) : Bool := c == 32 || c == 9 || c == 10 || c == 13 || c == 35
def sepH : Bs → Bool
  | [] => true
  | c :: _ => sepB c
theorem sep_cases {c : UInt8} (h : sepB c = true) : c = 32 ∨ c = 9 ∨ c = 10 ∨ c = 13 ∨ c = 35 := by
  simp only [sepB, Bool.or_eq_true, beq_iff_eq] at h
  rcases h with (((h | h) | h) | h) | h <;> simp [h]
theorem sep_facts : ∀ c : UInt8, sepB c = true → wordB c = false ∧ digB c = false ∧ hexB c = false ∧ ¬ (c = 34 ∨ c = 92) ∧ ¬ c = 110 ∧ ¬ c = 116 ∧ ¬ c = 114 ∧ ¬ c = 120 := by
  intro c h
  rcases sep_cases h with rfl | rfl | rfl | rfl | rfl <;> decide
theorem escOf_ext {l x : Bs} (hx : sepH x = true) : escOf (l ++ x) = escOf l := by
  cases l with
  | nil =>
    cases x with
    | nil => rfl
    | cons c x =>
      obtain ⟨_, _, _, h1, h2, h3, h4, h5⟩ := sep_facts c hx
      simp only [List.nil_append, escOf, if_neg h1, if_neg h2, if_neg h3, if_neg h4, if_neg h5]
  | cons e l =>
    simp only [List.cons_append, escOf]
    split
    · rfl
    split
    · rfl
    split
    · rfl
    split
    · rfl
    split
    · cases l with
      | nil =>
        cases x with
        | nil => rfl
        | cons c x =>
          obtain ⟨_, _, h1, _⟩ := sep_facts c hx
          cases x with
          | nil => rfl
          | cons d x => simp [h1]
      | cons h1 l =>
        cases l with
        | nil =>
          cases x with
          | nil => rfl
          | cons c x =>
            obtain ⟨_, _, h2, _⟩ := sep_facts c hx
            simp [h2]
        | cons h2 l => rfl
    · rfl
/-- A text that ends, or is wrong, is so whatever stands behind. -/
theorem strL_ext {x : Bs} (hx : sepH x = true) : ∀ (n : Nat) (l : Bs) (off : Nat) (acc : Bs), l.length ≤ n → strL l off acc ≠ .open_ → strL (l ++ x) off acc = strL l off acc
  | n, [], off, acc, hn, h => absurd (by simp [strL]) h
  | 0, c :: l, off, acc, hn, h => by simp at hn
  | n + 1, c :: l, off, acc, hn, h => by
    simp only [List.length_cons] at hn
    rw [List.cons_append, strL_cons, strL_cons]
    rw [strL_cons] at h
    split at h
    · rename_i c1; rw [if_pos c1, if_pos c1]
    rename_i c1
    rw [if_neg c1, if_neg c1]
    split at h
    · rename_i c2; rw [if_pos c2, if_pos c2]
    rename_i c2
    rw [if_neg c2, if_neg c2]
    split at h
    · rename_i c3
      rw [if_pos c3, if_pos c3, escOf_ext hx]
      cases he : escOf l with
      | none => rfl
      | some p =>
        obtain ⟨b, m⟩ := p
        rw [he] at h
        have hl := escOf_len he
        simp only at h ⊢
        rw [List.drop_append_of_le_length hl.2]
        exact strL_ext hx n _ _ _ (by rw [List.length_drop]; omega) h
    · rename_i c3
      rw [if_neg c3, if_neg c3]
      exact strL_ext hx n _ _ _ (by omega) h
theorem escOf_pre {l : Bs} {b : UInt8} {m : Nat} (h : escOf l = some (b, m)) (y : Bs) : escOf (l.take m ++ y) = some (b, m) := by
  cases l with
  | nil => cases h
  | cons e l =>
    simp only [escOf] at h
    split at h
    · rename_i c1; cases h; simp only [List.take_succ_cons, List.take_zero, List.cons_append, List.nil_append, escOf, if_pos c1]
    rename_i c1
    split at h
    · rename_i c2; cases h; simp only [List.take_succ_cons, List.take_zero, List.cons_append, List.nil_append, escOf, if_neg c1, if_pos c2]
    rename_i c2
    split at h
    · rename_i c3; cases h; simp only [List.take_succ_cons, List.take_zero, List.cons_append, List.nil_append, escOf, if_neg c1, if_neg c2, if_pos c3]
    rename_i c3
    split at h
    · rename_i c4; cases h; simp only [List.take_succ_cons, List.take_zero, List.cons_append, List.nil_append, escOf, if_neg c1, if_neg c2, if_neg c3, if_pos c4]
    rename_i c4
    split at h
    · rename_i c5
      cases l with
      | nil => cases h
      | cons h1 l =>
        cases l with
        | nil => cases h
        | cons h2 l =>
          simp only at h
          split at h
          · rename_i c6; cases h; simp only [List.take_succ_cons, List.take_zero, List.cons_append, List.nil_append, escOf, if_neg c1, if_neg c2, if_neg c3, if_neg c4, if_pos c5, if_pos c6]
          · cases h
    · cases h
/-- A text is read out of its own bytes, whatever stands behind. -/
theorem strL_any (x : Bs) : ∀ (n : Nat) (l : Bs) (off : Nat) (acc b : Bs) (e : Nat), l.length ≤ n → strL l off acc = .done b e → strL (l.take (e - off) ++ x) off acc = .done b e
  | n, [], off, acc, b, e, hn, h => by simp [strL] at h
  | 0, c :: l, off, acc, b, e, hn, h => by simp at hn
  | n + 1, c :: l, off, acc, b, e, hn, h => by
    simp only [List.length_cons] at hn
    have hb := strL_bound _ _ _ _ _ _ (Nat.le_refl _) h
    obtain ⟨d, hd⟩ : ∃ d, e - off = d + 1 := ⟨e - off - 1, by omega⟩
    rw [hd, List.take_succ_cons, List.cons_append, strL_cons]
    rw [strL_cons] at h
    split at h
    · rename_i c1; rw [if_pos c1]; exact h
    rename_i c1
    rw [if_neg c1]
    split at h
    · cases h
    rename_i c2
    rw [if_neg c2]
    split at h
    · rename_i c3
      rw [if_pos c3]
      cases he : escOf l with
      | none => rw [he] at h; cases h
      | some p =>
        obtain ⟨b1, m⟩ := p
        rw [he] at h
        simp only at h
        have hl := escOf_len he
        have hb2 := strL_bound _ _ _ _ _ _ (Nat.le_refl _) h
        have ih := strL_any x n _ _ _ _ _ (by rw [List.length_drop]; omega) h
        have hm : m ≤ d := by omega
        have he2 : escOf (l.take d ++ x) = some (b1, m) := by
          have e1 : l.take d = l.take m ++ (l.drop m).take (d - m) := by
            rw [← List.take_add, Nat.add_sub_cancel' hm]
          rw [e1, List.append_assoc]
          exact escOf_pre he _
        rw [he2]
        simp only
        rw [List.drop_append_of_le_length (by rw [List.length_take]; omega), List.drop_take]
        rw [show e - (off + 1 + m) = d - m by omega] at ih
        exact ih
    · rename_i c3
      rw [if_neg c3]
      have hb2 := strL_bound _ _ _ _ _ _ (Nat.le_refl _) h
      have ih := strL_any x n _ _ _ _ _ (by omega) h
      rw [show e - (off + 1) = d by omega] at ih
      exact ih
theorem isPrefix_ext {m l : Bs} (x : Bs) (h : m.length ≤ l.length) : m.isPrefixOf (l ++ x) = m.isPrefixOf l := by
  rw [Bool.eq_iff_iff, List.isPrefixOf_iff_prefix, List.isPrefixOf_iff_prefix]
  constructor
  · intro h1
    rw [List.prefix_iff_eq_take] at h1 ⊢
    rw [h1, List.take_append_of_le_length h]
    simp
  · intro h1; exact h1.trans (List.prefix_append _ _)
theorem marks_short : ∀ m ∈ marksL, m.length ≤ 2 ∧ ∀ c ∈ m, sepB c = false ∧ ¬ c = 34 ∧ digB c = false ∧ wordB c = false ∧ ¬ c = 45 := by decide
theorem findMark_ext {l x : Bs} (hl : l ≠ []) (hx : sepH x = true) : ∀ ms : List Bs, (∀ m ∈ ms, m ∈ marksL) → findMark (l ++ x) ms = findMark l ms
  | [], _ => rfl
  | m :: ms, hm => by
    have hms := marks_short m (hm m List.mem_cons_self)
    have e : m.isPrefixOf (l ++ x) = m.isPrefixOf l := by
      by_cases h : m.length ≤ l.length
      · exact isPrefix_ext x h
      · cases l with
        | nil => exact absurd rfl hl
        | cons c l =>
          simp only [List.length_cons] at h
          have hl0 : l = [] := List.eq_nil_of_length_eq_zero (by omega)
          subst hl0
          match m, hms with
          | [], _ => rfl
          | [a], _ => simp at h
          | a :: b :: m', hms =>
            cases x with
            | nil => rfl
            | cons d x =>
              have hb := (hms.2 b (by simp)).1
              have hd : sepB d = true := hx
              have hne : (b == d) = false := by
                rw [beq_eq_false_iff_ne]; intro e; rw [e] at hb; rw [hb] at hd; cases hd
              simp [List.isPrefixOf, hne]
    simp only [findMark, e]
    rw [findMark_ext hl hx ms (fun m' h' => hm m' (List.mem_cons_of_mem _ h'))]
def headD : Bs → Bool
  | [] => false
  | d :: _ => digB d
/-- tokAt at the head. -/
theorem tokAt0 (c : UInt8) (r : Bs) : tokAt (c :: r) 0 =
    if c = 34 then textAt (c :: r) 0
    else if digB c || (c == 45 && headD r) then
      match numOf (runL (c :: r)) with
      | some n => .ok ⟨2, [], n, 0, 0 + (runL (c :: r)).length⟩
      | none => .error (114, 0)
    else if wordB c then .ok ⟨3, runL (c :: r), 0, 0, 0 + (runL (c :: r)).length⟩
    else match findMark (c :: r) marksL with
      | some m => .ok ⟨4, m, 0, 0, 0 + m.length⟩
      | none => .error (111, 0) := by
  cases r <;> rfl
theorem strRes_shift (k : Nat) (R : StrR) : (match shS k R with
    | .open_ => (.error (112, k) : Res)
    | .byte p => .error (111, p)
    | .esc p => .error (113, p)
    | .done b e => if 127 < b.length then .error (115, k) else .ok ⟨1, b, 0, k, e⟩) = shR k (match R with
    | .open_ => .error (112, 0)
    | .byte p => .error (111, p)
    | .esc p => .error (113, p)
    | .done b e => if 127 < b.length then .error (115, 0) else .ok ⟨1, b, 0, 0, e⟩) := by
  cases R with
  | open_ => simp [shS, shR]
  | byte p => simp [shS, shR]
  | esc p => simp [shS, shR]
  | done b e =>
    simp only [shS]
    split
    · simp [shR]
    · simp [shR, shT]
/-- A token's place moves with it. -/
theorem tokAt_shift (u r : Bs) : tokAt (u ++ r) u.length = shR u.length (tokAt r 0) := by
  unfold tokAt
  rw [List.drop_left, List.drop_zero]
  cases r with
  | nil => simp [shR, shT]
  | cons c r =>
    simp only
    by_cases c1 : c = 34
    · rw [if_pos c1, if_pos c1]
      unfold textAt
      have e : (u ++ c :: r).drop (u.length + 1) = (c :: r).drop (0 + 1) := by
        rw [List.drop_append]; simp
      rw [e, show u.length + 1 = 0 + 1 + u.length by omega, strL_shift u.length _ _ _ _ (Nat.le_refl _)]
      exact strRes_shift _ _
    rw [if_neg c1, if_neg c1]
    have fin : ∀ q : Bool, (if q = true then (match numOf (runL (c :: r)) with
          | some n => (.ok ⟨2, [], n, u.length, u.length + (runL (c :: r)).length⟩ : Res)
          | none => .error (114, u.length))
        else if wordB c then .ok ⟨3, runL (c :: r), 0, u.length, u.length + (runL (c :: r)).length⟩
        else match findMark (c :: r) marksL with
          | some m => .ok ⟨4, m, 0, u.length, u.length + m.length⟩
          | none => .error (111, u.length)) = shR u.length (if q = true then (match numOf (runL (c :: r)) with
          | some n => (.ok ⟨2, [], n, 0, 0 + (runL (c :: r)).length⟩ : Res)
          | none => .error (114, 0))
        else if wordB c then .ok ⟨3, runL (c :: r), 0, 0, 0 + (runL (c :: r)).length⟩
        else match findMark (c :: r) marksL with
          | some m => .ok ⟨4, m, 0, 0, 0 + m.length⟩
          | none => .error (111, 0)) := by
      intro q
      split
      · split
        · simp [shR, shT, Nat.add_comm]
        · simp [shR]
      split
      · simp [shR, shT, Nat.add_comm]
      split
      · simp [shR, shT, Nat.add_comm]
      · simp [shR]
    exact fin _
theorem tokAt_drop (l : Bs) (i : Nat) (hi : i ≤ l.length) : tokAt l i = shR i (tokAt (l.drop i) 0) := by
  have h := tokAt_shift (l.take i) (l.drop i)
  rw [List.take_append_drop, List.length_take, Nat.min_eq_left hi] at h
  exact h
theorem takeWhile_ext {l x : Bs} (hx : sepH x = true) : (l ++ x).takeWhile wordB = l.takeWhile wordB := by
  induction l with
  | nil =>
    cases x with
    | nil => rfl
    | cons c x => rw [List.nil_append, List.takeWhile_cons, if_neg (by rw [(sep_facts c hx).1]; decide)]; rfl
  | cons c l ih => simp only [List.cons_append, List.takeWhile_cons, ih]
theorem runL_ext {l x : Bs} (hl : l ≠ []) (hx : sepH x = true) : runL (l ++ x) = runL l := by
  cases l with
  | nil => exact absurd rfl hl
  | cons c l => simp only [List.cons_append, runL, takeWhile_ext hx]
theorem headD_ext {l x : Bs} (hx : sepH x = true) : headD (l ++ x) = headD l := by
  cases l with
  | nil =>
    cases x with
    | nil => rfl
    | cons c x => exact (sep_facts c hx).2.1
  | cons c l => rfl
/-- A token, or a fault that is met, stays so whatever is behind a blank. -/
theorem tokAt_ext {r x : Bs} (hr : r ≠ []) (hx : sepH x = true) (h : tokAt r 0 ≠ .error (112, 0)) : tokAt (r ++ x) 0 = tokAt r 0 := by
  cases r with
  | nil => exact absurd rfl hr
  | cons c r =>
    rw [List.cons_append, tokAt0, tokAt0]
    rw [tokAt0] at h
    by_cases c1 : c = 34
    · rw [if_pos c1, if_pos c1]
      rw [if_pos c1] at h
      unfold textAt at h ⊢
      have e : strL ((c :: (r ++ x)).drop (0 + 1)) (0 + 1) [] = strL ((c :: r).drop (0 + 1)) (0 + 1) [] := by
        refine strL_ext hx _ r (0 + 1) [] (Nat.le_refl _) (fun e => ?_)
        have e2 : strL ((c :: r).drop (0 + 1)) (0 + 1) [] = .open_ := e
        rw [e2] at h
        exact h rfl
      rw [e]
    rw [if_neg c1, if_neg c1, headD_ext hx, ← List.cons_append, runL_ext (by simp) hx, findMark_ext (by simp) hx _ (fun m h => h)]
/-- The run is a run of its own. -/
theorem runL_self (l : Bs) : runL (runL l) = runL l := by
  cases l with
  | nil => rfl
  | cons c l =>
    simp only [runL]
    congr 1
    induction l with
    | nil => rfl
    | cons d l ih =>
      rw [List.takeWhile_cons]
      split
      · rename_i hd; rw [List.takeWhile_cons, if_pos hd, ih]
      · rfl
theorem takeWhile_len (l : Bs) : l.take (l.takeWhile wordB).length = l.takeWhile wordB := by
  induction l with
  | nil => rfl
  | cons c l ih =>
    rw [List.takeWhile_cons]
    split
    · simp only [List.length_cons, List.take_succ_cons, ih]
    · rfl
theorem run_take (l : Bs) : l.take (runL l).length = runL l := by
  cases l with
  | nil => rfl
  | cons c l => simp only [runL, List.length_cons, List.take_succ_cons, takeWhile_len]
theorem headD_run (c : UInt8) (r : Bs) : headD (r.takeWhile wordB) = headD r := by
  cases r with
  | nil => rfl
  | cons d r =>
    rw [List.takeWhile_cons]
    cases hd : digB d with
    | true => rw [if_pos (by simp [wordB, hd])]; rfl
    | false =>
      split
      · rfl
      · simp [headD, hd]
theorem findMark_self : ∀ m ∈ marksL, findMark m marksL = some m := by decide
/-- A token cut out of its source is that token. -/
theorem tokAt_cut {r : Bs} {t : Tk} (h : tokAt r 0 = .ok t) (hk : ¬ t.kind = 0) : tokAt (r.take t.end_) 0 = .ok t := by
  cases r with
  | nil => simp only [tokAt, List.drop_nil] at h; cases h; exact absurd rfl hk
  | cons c r =>
    rw [tokAt0] at h
    by_cases c1 : c = 34
    · rw [if_pos c1] at h
      unfold textAt at h
      split at h
      · cases h
      · cases h
      · cases h
      · rename_i b e he
        split at h
        · cases h
        · rename_i hb
          cases h
          have hbd := strL_bound _ _ _ _ _ _ (Nat.le_refl _) he
          obtain ⟨d, rfl⟩ : ∃ d, e = d + 1 := ⟨e - 1, by omega⟩
          have h2 := strL_any [] _ _ _ _ _ _ (Nat.le_refl _) he
          simp only [List.take_succ_cons]
          rw [tokAt0, if_pos c1]
          unfold textAt
          rw [List.append_nil, show d + 1 - (0 + 1) = d by omega] at h2
          have h3 : (c :: r.take d).drop (0 + 1) = ((c :: r).drop (0 + 1)).take d := rfl
          rw [h3, h2]
          simp only [if_neg hb]
    rw [if_neg c1] at h
    by_cases c2 : (digB c || (c == 45 && headD r)) = true
    · rw [if_pos c2] at h
      split at h
      · rename_i n hn
        cases h
        simp only [Nat.zero_add]
        rw [run_take, show runL (c :: r) = c :: r.takeWhile wordB from rfl, tokAt0, if_neg c1, headD_run c r, if_pos c2, ← show runL (c :: r) = c :: r.takeWhile wordB from rfl, runL_self, hn]
        simp only [Nat.zero_add]
      · cases h
    rw [if_neg c2] at h
    by_cases c3 : wordB c = true
    · rw [if_pos c3] at h
      cases h
      simp only [Nat.zero_add]
      rw [run_take, show runL (c :: r) = c :: r.takeWhile wordB from rfl, tokAt0, if_neg c1, headD_run c r, if_neg c2, if_pos c3, ← show runL (c :: r) = c :: r.takeWhile wordB from rfl, runL_self]
      simp only [Nat.zero_add]
    rw [if_neg c3] at h
    split at h
    · rename_i m hm
      cases h
      obtain ⟨h1, h2⟩ := findMark_some _ _ _ hm
      have h3 := List.isPrefixOf_iff_prefix.1 h2
      simp only [Nat.zero_add]
      rw [← List.prefix_iff_eq_take.1 h3]
      have hs := marks_short m h1
      have hp := marks_pos m h1
      have hf := findMark_self m h1
      cases m with
      | nil => simp at hp
      | cons a m' =>
        have ha := hs.2 a List.mem_cons_self
        rw [tokAt0, if_neg ha.2.1, if_neg (by rw [ha.2.2.1, beq_eq_false_iff_ne.2 ha.2.2.2.2]; simp), if_neg (by rw [ha.2.2.2.1]; decide), hf]
        simp only [Nat.zero_add]
    · cases h

end Go.Proofs.YthcdmnndhjbbfaaDoor.X
