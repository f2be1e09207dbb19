/-
  Plain law: where a token begins and ends; what the tokens of a source come to, one by one.
  Plain law: a token depends on its own bytes and on what separates it alone.
  Plain law: the tokens of a source, one behind the other; sources put together.
  Plain law of LexAlone: a token alone; the tokens with a blank and a remark between.
-/
import Derived.Test.YtfiljgkcipnghaaGreatDoorLexL
set_option linter.unusedVariables false
set_option linter.unusedSimpArgs false
namespace Go.Proofs.YtfiljgkcipnghaaGreatDoor.X
theorem strL_bound : ∀ (n : Nat) (l : Bs) (off : Nat) (acc b : Bs) (e : Nat), l.length ≤ n → strL l off acc = .done b e → off < e ∧ e ≤ off + l.length
  | 0, l, off, acc, b, e, hn, h => by
    have : l = [] := List.eq_nil_of_length_eq_zero (by omega)
    subst this
    simp [strL] at h
  | n + 1, [], off, acc, b, e, hn, h => by simp [strL] at h
  | n + 1, c :: l, off, acc, b, e, hn, h => by
    simp only [List.length_cons] at hn ⊢
    rw [strL.eq_def] at h
    simp only at h
    split at h
    · injection h with h1 h2; omega
    split at h
    · cases h
    split at h
    · cases l with
      | nil => cases h
      | cons c1 l1 =>
        simp only [List.length_cons] at hn ⊢
        simp only at h
        split at h
        · have := strL_bound n l1 _ _ _ _ (by omega) h; omega
        split at h
        · have := strL_bound n l1 _ _ _ _ (by omega) h; omega
        split at h
        · have := strL_bound n l1 _ _ _ _ (by omega) h; omega
        split at h
        · have := strL_bound n l1 _ _ _ _ (by omega) h; omega
        split at h
        · cases l1 with
          | nil => cases h
          | cons c2 l2 =>
            cases l2 with
            | nil => cases h
            | cons c3 l3 =>
              simp only [List.length_cons] at hn ⊢
              simp only at h
              split at h
              · have := strL_bound n l3 _ _ _ _ (by omega) h; omega
              · cases h
        · cases h
    · have := strL_bound n l _ _ _ _ (by omega) h; omega
theorem runL_le (l : Bs) : (runL l).length ≤ l.length := by
  cases l with
  | nil => simp [runL]
  | cons c r =>
    simp only [runL, List.length_cons]
    have := (List.takeWhile_sublist wordB (l := r)).length_le
    omega
theorem findMark_some : ∀ (ms : List Bs) (l m : Bs), findMark l ms = some m → m ∈ ms ∧ m.isPrefixOf l = true
  | [], _, _, h => by cases h
  | a :: ms, l, m, h => by
    simp only [findMark] at h
    split at h
    · injection h with h; subst h; exact ⟨List.mem_cons_self, by assumption⟩
    · have := findMark_some ms l m h
      exact ⟨List.mem_cons_of_mem _ this.1, this.2⟩
theorem marks_pos : ∀ m ∈ marksL, 0 < m.length := by decide
/-- A token: the end, or a token that begins here and ends behind. -/
theorem tokAt_bound {l : Bs} {i : Nat} {t : Tk} (hi : i ≤ l.length) (h : tokAt l i = .ok t) :
    (i = l.length ∧ t = ⟨0, [], 0, l.length, l.length⟩) ∨ (i < l.length ∧ (t.kind = 1 ∨ t.kind = 2 ∨ t.kind = 3 ∨ t.kind = 4) ∧ t.at_ = i ∧ i < t.end_ ∧ t.end_ ≤ l.length) := by
  unfold tokAt at h
  have hdl : (l.drop i).length = l.length - i := List.length_drop
  cases hd : l.drop i with
  | nil =>
    rw [hd] at h hdl
    simp only at h
    injection h with h
    simp only [List.length_nil] at hdl
    exact .inl ⟨by omega, h.symm⟩
  | cons c r =>
    rw [hd] at h hdl
    simp only [List.length_cons] at h hdl
    have hr := runL_le (c :: r)
    have hr1 : 0 < (runL (c :: r)).length := by simp [runL]
    simp only [List.length_cons] at hr
    right
    refine ⟨by omega, ?_⟩
    split at h
    · unfold textAt at h
      split at h
      · cases h
      · cases h
      · cases h
      · rename_i b e he
        split at h
        · cases h
        · injection h with h
          subst h
          have hb := strL_bound _ _ _ _ _ _ (Nat.le_refl _) he
          rw [List.length_drop] at hb
          exact ⟨.inl rfl, rfl, by simp only; omega, by simp only; omega⟩
    have fin : ∀ q : Bool, (if q = true then (match numOf (runL (c :: r)) with
          | some n => (.ok ⟨2, [], n, i, i + (runL (c :: r)).length⟩ : Res)
          | none => .error (114, i))
        else if wordB c then .ok ⟨3, runL (c :: r), 0, i, i + (runL (c :: r)).length⟩
        else match findMark (c :: r) marksL with
          | some m => .ok ⟨4, m, 0, i, i + m.length⟩
          | none => .error (111, i)) = .ok t → (t.kind = 1 ∨ t.kind = 2 ∨ t.kind = 3 ∨ t.kind = 4) ∧ t.at_ = i ∧ i < t.end_ ∧ t.end_ ≤ l.length := by
      intro q h
      split at h
      · split at h
        · injection h with h; subst h; exact ⟨.inr (.inl rfl), rfl, by simp only; omega, by simp only; omega⟩
        · cases h
      split at h
      · injection h with h; subst h; exact ⟨.inr (.inr (.inl rfl)), rfl, by simp only; omega, by simp only; omega⟩
      split at h
      · rename_i m hm
        injection h with h
        subst h
        obtain ⟨h1, h2⟩ := findMark_some _ _ _ hm
        have h3 := marks_pos m h1
        have h4 := (List.isPrefixOf_iff_prefix.1 h2).length_le
        simp only [List.length_cons] at h4
        exact ⟨.inr (.inr (.inr rfl)), rfl, by simp only; omega, by simp only; omega⟩
      · cases h
    exact fin _ h
/-- Where the next token begins. -/
def skipN (l : Bs) (i : Nat) : Nat := i + gapN false (l.drop i)
theorem skipN_le {l : Bs} {i : Nat} (hi : i ≤ l.length) : skipN l i ≤ l.length := by
  have := gapN_le false (l.drop i)
  rw [List.length_drop] at this
  unfold skipN; omega
theorem skipN_ge (l : Bs) (i : Nat) : i ≤ skipN l i := by unfold skipN; omega
theorem scanN_err {l : Bs} {n i : Nat} {f : Int × Nat} (h : tokAt l (skipN l i) = .error f) : scanN l (n + 1) i = ([], some f) := by
  simp only [scanN]; rw [show i + gapN false (l.drop i) = skipN l i from rfl, h]
theorem scanN_end {l : Bs} {n i : Nat} {t : Tk} (h : tokAt l (skipN l i) = .ok t) (hk : t.kind = 0) : scanN l (n + 1) i = ([t], none) := by
  simp only [scanN]; rw [show i + gapN false (l.drop i) = skipN l i from rfl, h]; simp only [if_pos hk]
theorem scanN_ok {l : Bs} {n i : Nat} {t : Tk} (h : tokAt l (skipN l i) = .ok t) (hk : ¬ t.kind = 0) : scanN l (n + 1) i = (t :: (scanN l n t.end_).1, (scanN l n t.end_).2) := by
  simp only [scanN]; rw [show i + gapN false (l.drop i) = skipN l i from rfl, h]; simp only [if_neg hk]
theorem tok_cases {l : Bs} {i : Nat} {t : Tk} (hi : i ≤ l.length) (h : tokAt l i = .ok t) (hk : ¬ t.kind = 0) : t.at_ = i ∧ i < t.end_ ∧ t.end_ ≤ l.length := by
  rcases tokAt_bound hi h with ⟨_, rfl⟩ | ⟨_, _, h1, h2, h3⟩
  · exact absurd rfl hk
  · exact ⟨h1, h2, h3⟩

end Go.Proofs.YtfiljgkcipnghaaGreatDoor.X
set_option linter.unusedVariables false
set_option linter.unusedSimpArgs false
namespace Go.Proofs.YtfiljgkcipnghaaGreatDoor.X
def shT (k : Nat) (t : Tk) : Tk := { t with at_ := t.at_ + k, end_ := t.end_ + k }
def shR (k : Nat) : Res → Res
  | .ok t => .ok (shT k t)
  | .error f => .error (f.1, f.2 + k)
def shS (k : Nat) : StrR → StrR
  | .open_ => .open_
  | .byte p => .byte (p + k)
  | .esc p => .esc (p + k)
  | .done b e => .done b (e + k)
/-- One step of a text's reading: the byte read and how many bytes it took. -/
def escOf : Bs → Option (UInt8 × Nat)
  | [] => none
  | e :: l =>
    if e = 34 ∨ e = 92 then some (e, 1)
    else if e = 110 then some (10, 1)
    else if e = 116 then some (9, 1)
    else if e = 114 then some (13, 1)
    else if e = 120 then
      match l with
      | h1 :: h2 :: _ => if hexB h1 && hexB h2 then some (16 * hexV h1 + hexV h2, 3) else none
      | _ => none
    else none
theorem escOf_len {l : Bs} {b : UInt8} {n : Nat} (h : escOf l = some (b, n)) : 0 < n ∧ n ≤ l.length := by
  cases l with
  | nil => cases h
  | cons e l =>
    simp only [escOf] at h
    split at h
    · cases h; simp
    split at h
    · cases h; simp
    split at h
    · cases h; simp
    split at h
    · cases h; simp
    split at h
    · cases l with
      | nil => cases h
      | cons h1 l =>
        cases l with
        | nil => cases h
        | cons h2 l =>
          simp only at h
          split at h
          · cases h; simp
          · cases h
    · cases h
theorem strL_cons (c : UInt8) (l : Bs) (off : Nat) (acc : Bs) : strL (c :: l) off acc =
    if c = 34 then .done acc (off + 1) else if c < 32 then .byte off else if c = 92 then (match escOf l with
      | some (b, n) => strL (l.drop n) (off + 1 + n) (acc ++ [b])
      | none => .esc off) else strL l (off + 1) (acc ++ [c]) := by
  rw [strL.eq_def]
  simp only
  by_cases h1 : c = 34
  · simp only [if_pos h1]
  simp only [if_neg h1]
  by_cases h2 : c < 32
  · simp only [if_pos h2]
  simp only [if_neg h2]
  by_cases h3 : c = 92
  · simp only [if_pos h3]
    cases l with
    | nil => rfl
    | cons e l =>
      simp only [escOf]
      by_cases k1 : e = 34 ∨ e = 92
      · simp only [if_pos k1]; rfl
      simp only [if_neg k1]
      by_cases k2 : e = 110
      · simp only [if_pos k2]; rfl
      simp only [if_neg k2]
      by_cases k3 : e = 116
      · simp only [if_pos k3]; rfl
      simp only [if_neg k3]
      by_cases k4 : e = 114
      · simp only [if_pos k4]; rfl
      simp only [if_neg k4]
      by_cases k5 : e = 120
      · simp only [if_pos k5]
        cases l with
        | nil => rfl
        | cons h1 l =>
          cases l with
          | nil => rfl
          | cons h2 l =>
            simp only
            by_cases k6 : (hexB h1 && hexB h2) = true
            · simp only [if_pos k6]; rfl
            · simp only [if_neg k6]
      · simp only [if_neg k5]
  · simp only [if_neg h3]
theorem strL_shift (k : Nat) : ∀ (n : Nat) (l : Bs) (off : Nat) (acc : Bs), l.length ≤ n → strL l (off + k) acc = shS k (strL l off acc)
  | n, [], off, acc, hn => by simp [strL, shS]
  | 0, c :: l, off, acc, hn => by simp at hn
  | n + 1, c :: l, off, acc, hn => by
    simp only [List.length_cons] at hn
    rw [strL_cons, strL_cons]
    split
    · simp only [shS]; congr 1; omega
    split
    · rfl
    split
    · cases he : escOf l with
      | none => rfl
      | some p =>
        obtain ⟨b, m⟩ := p
        have := escOf_len he
        simp only
        rw [show off + k + 1 + m = off + 1 + m + k by omega]
        exact strL_shift k n _ _ _ (by rw [List.length_drop]; omega)
    · rw [show off + k + 1 = off + 1 + k by omega]
      exact strL_shift k n _ _ _ (by omega)
def headD : Bs → Bool
  | [] => false
  | d :: _ => digB d
/-- tokAt at the head. -/
theorem tokAt0 (c : UInt8) (r : Bs) : tokAt (c :: r) 0 =
    if c = 34 then textAt (c :: r) 0
    else if digB c || (c == 45 && headD r) then
      match numOf (runL (c :: r)) with
      | some n => .ok ⟨2, [], n, 0, 0 + (runL (c :: r)).length⟩
      | none => .error (114, 0)
    else if wordB c then .ok ⟨3, runL (c :: r), 0, 0, 0 + (runL (c :: r)).length⟩
    else match findMark (c :: r) marksL with
      | some m => .ok ⟨4, m, 0, 0, 0 + m.length⟩
      | none => .error (111, 0) := by
  cases r <;> rfl
theorem strRes_shift (k : Nat) (R : StrR) : (match shS k R with
    | .open_ => (.error (112, k) : Res)
    | .byte p => .error (111, p)
    | .esc p => .error (113, p)
    | .done b e => if 127 < b.length then .error (115, k) else .ok ⟨1, b, 0, k, e⟩) = shR k (match R with
    | .open_ => .error (112, 0)
    | .byte p => .error (111, p)
    | .esc p => .error (113, p)
    | .done b e => if 127 < b.length then .error (115, 0) else .ok ⟨1, b, 0, 0, e⟩) := by
  cases R with
  | open_ => simp [shS, shR]
  | byte p => simp [shS, shR]
  | esc p => simp [shS, shR]
  | done b e =>
    simp only [shS]
    split
    · simp [shR]
    · simp [shR, shT]
/-- A token's place moves with it. -/
theorem tokAt_shift (u r : Bs) : tokAt (u ++ r) u.length = shR u.length (tokAt r 0) := by
  unfold tokAt
  rw [List.drop_left, List.drop_zero]
  cases r with
  | nil => simp [shR, shT]
  | cons c r =>
    simp only
    by_cases c1 : c = 34
    · rw [if_pos c1, if_pos c1]
      unfold textAt
      have e : (u ++ c :: r).drop (u.length + 1) = (c :: r).drop (0 + 1) := by
        rw [List.drop_append]; simp
      rw [e, show u.length + 1 = 0 + 1 + u.length by omega, strL_shift u.length _ _ _ _ (Nat.le_refl _)]
      exact strRes_shift _ _
    rw [if_neg c1, if_neg c1]
    have fin : ∀ q : Bool, (if q = true then (match numOf (runL (c :: r)) with
          | some n => (.ok ⟨2, [], n, u.length, u.length + (runL (c :: r)).length⟩ : Res)
          | none => .error (114, u.length))
        else if wordB c then .ok ⟨3, runL (c :: r), 0, u.length, u.length + (runL (c :: r)).length⟩
        else match findMark (c :: r) marksL with
          | some m => .ok ⟨4, m, 0, u.length, u.length + m.length⟩
          | none => .error (111, u.length)) = shR u.length (if q = true then (match numOf (runL (c :: r)) with
          | some n => (.ok ⟨2, [], n, 0, 0 + (runL (c :: r)).length⟩ : Res)
          | none => .error (114, 0))
        else if wordB c then .ok ⟨3, runL (c :: r), 0, 0, 0 + (runL (c :: r)).length⟩
        else match findMark (c :: r) marksL with
          | some m => .ok ⟨4, m, 0, 0, 0 + m.length⟩
          | none => .error (111, 0)) := by
      intro q
      split
      · split
        · simp [shR, shT, Nat.add_comm]
        · simp [shR]
      split
      · simp [shR, shT, Nat.add_comm]
      split
      · simp [shR, shT, Nat.add_comm]
      · simp [shR]
    exact fin _
theorem tokAt_drop (l : Bs) (i : Nat) (hi : i ≤ l.length) : tokAt l i = shR i (tokAt (l.drop i) 0) := by
  have h := tokAt_shift (l.take i) (l.drop i)
  rw [List.take_append_drop, List.length_take, Nat.min_eq_left hi] at h
  exact h

end Go.Proofs.YtfiljgkcipnghaaGreatDoor.X
set_option linter.unusedVariables false
set_option linter.unusedSimpArgs false
namespace Go.Proofs.YtfiljgkcipnghaaGreatDoor.X
/-- The tokens of a source without a fault. -/
inductive Chain (l : Bs) : Nat → List Tk → Prop
  | fin (i : Nat) : i ≤ l.length → skipN l i = l.length → Chain l i [⟨0, [], 0, l.length, l.length⟩]
  | cons (i : Nat) (t : Tk) (ts : List Tk) : i ≤ l.length → tokAt l (skipN l i) = .ok t → ¬ t.kind = 0 → t.at_ = skipN l i → t.at_ < t.end_ → t.end_ ≤ l.length → Chain l t.end_ ts → Chain l i (t :: ts)
theorem tokAt_end (l : Bs) : tokAt l l.length = .ok ⟨0, [], 0, l.length, l.length⟩ := by
  unfold tokAt; rw [List.drop_length]
theorem scanN_chain (l : Bs) : ∀ (n i : Nat), i ≤ l.length → l.length + 1 ≤ n + i → (scanN l n i).2 = none → Chain l i (scanN l n i).1
  | 0, i, hi, hn, h => by omega
  | n + 1, i, hi, hn, h => by
    have hsk := skipN_le hi
    have hsg := skipN_ge l i
    cases hr : tokAt l (skipN l i) with
    | error f => rw [scanN_err hr] at h; cases h
    | ok t =>
      by_cases hk : t.kind = 0
      · rw [scanN_end hr hk]
        rcases tokAt_bound hsk hr with ⟨h1, rfl⟩ | ⟨_, h2, _⟩
        · exact .fin i hi h1
        · rcases h2 with h2 | h2 | h2 | h2 <;> rw [h2] at hk <;> exact absurd hk (by decide)
      · rw [scanN_ok hr hk] at h ⊢
        obtain ⟨h1, h2, h3⟩ := tok_cases hsk hr hk
        exact .cons i t _ hi hr hk h1 (by omega) h3 (scanN_chain l n t.end_ h3 (by omega) h)
theorem prefix_chain {l : Bs} {ts : List Tk} (h : scanL l = (ts, none)) : l.length ≤ 4096 ∧ Chain l 0 ts := by
  unfold scanL at h
  split at h
  · rename_i hs
    have := congrArg Prod.snd h
    simp only at this
    rw [this] at hs; cases hs
  · unfold prefixL at h
    split at h
    · cases h
    · rename_i hl
      refine ⟨by omega, ?_⟩
      have := scanN_chain l (l.length + 1) 0 (by omega) (by omega) (congrArg Prod.snd h)
      rw [congrArg Prod.fst h] at this
      exact this

/-! ### A fault that is met first stays. -/
/-- Where a wrong text is wrong. -/
def wrongAt : StrR → Option Nat
  | .byte p => some p
  | .esc p => some p
  | _ => none
theorem strL_wrong : ∀ (n : Nat) (l : Bs) (off : Nat) (acc : Bs) (p : Nat), l.length ≤ n → wrongAt (strL l off acc) = some p → off ≤ p ∧ p < off + l.length
  | n, [], off, acc, p, hn, h => by simp [strL, wrongAt] at h
  | 0, c :: l, off, acc, p, hn, h => by simp at hn
  | n + 1, c :: l, off, acc, p, hn, h => by
    simp only [List.length_cons] at hn ⊢
    rw [strL_cons] at h
    split at h
    · cases h
    split at h
    · cases h; omega
    split at h
    · cases he : escOf l with
      | none => rw [he] at h; cases h; omega
      | some q =>
        obtain ⟨b, m⟩ := q
        have hl := escOf_len he
        rw [he] at h
        have := strL_wrong n _ _ _ _ (by rw [List.length_drop]; omega) h
        rw [List.length_drop] at this
        omega
    · have := strL_wrong n _ _ _ _ (by omega) h
      omega
theorem tok_err_at {r : Bs} (hr : r ≠ []) {f : Int × Nat} (h : tokAt r 0 = .error f) (hf : f.1 ≠ 112) : f.2 < r.length := by
  cases r with
  | nil => exact absurd rfl hr
  | cons c r =>
    rw [tokAt0] at h
    split at h
    · unfold textAt at h
      have hw : ∀ p, wrongAt (strL ((c :: r).drop (0 + 1)) (0 + 1) []) = some p → _ := fun p h => strL_wrong _ ((c :: r).drop (0 + 1)) (0 + 1) [] p (Nat.le_refl _) h
      split at h
      · cases h; exact absurd rfl hf
      · rename_i p hp
        cases h
        have := hw p (by rw [hp]; rfl)
        simp only [List.length_cons, List.length_drop] at this ⊢
        omega
      · rename_i p hp
        cases h
        have := hw p (by rw [hp]; rfl)
        simp only [List.length_cons, List.length_drop] at this ⊢
        omega
      · split at h
        · cases h; simp
        · cases h
    split at h
    · split at h
      · cases h
      · cases h; simp
    split at h
    · cases h
    split at h
    · cases h
    · cases h; simp

/-! ### Sources put together. -/

end Go.Proofs.YtfiljgkcipnghaaGreatDoor.X
set_option linter.unusedVariables false
set_option linter.unusedSimpArgs false
namespace Go.Proofs.YtfiljgkcipnghaaGreatDoor.X
/-- The tokens of a chain, but its end. -/
theorem chain_toks {l : Bs} {i : Nat} {ts : List Tk} (h : Chain l i ts) : ∃ us, ts = us ++ [⟨0, [], 0, l.length, l.length⟩] ∧ ∀ t ∈ us, t.at_ ≤ l.length ∧ tokAt l t.at_ = .ok t ∧ ¬ t.kind = 0 := by
  induction h with
  | fin i hi hs => exact ⟨[], rfl, fun t ht => by cases ht⟩
  | cons i t ts hi ht hk ha hl he hc ih =>
    obtain ⟨us, rfl, hu⟩ := ih
    refine ⟨t :: us, rfl, fun x hx => ?_⟩
    rcases List.mem_cons.1 hx with rfl | hx
    · exact ⟨by omega, by rw [ha]; exact ht, hk⟩
    · exact hu x hx

end Go.Proofs.YtfiljgkcipnghaaGreatDoor.X
