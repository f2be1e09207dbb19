/-
  Plain law: the tokens of a source, one behind the other; sources put together.
-/
import Derived.Test.YthcdmnndhjbbfaaDoorLexZ
set_option linter.unusedVariables false
set_option linter.unusedSimpArgs false
namespace Go.Proofs.YthcdmnndhjbbfaaDoor.X
theorem gapN_append (x : Bs) : ∀ (l : Bs) (b : Bool), gapN b l < l.length → gapN b (l ++ x) = gapN b l
  | [], b, h => by simp at h
  | c :: l, true, h => by
    simp only [List.cons_append, gapN, List.length_cons] at h ⊢
    split
    · rename_i c1; rw [if_pos c1] at h; rw [gapN_append x l false (by omega)]
    · rename_i c1; rw [if_neg c1] at h; rw [gapN_append x l true (by omega)]
  | c :: l, false, h => by
    simp only [List.cons_append, gapN, List.length_cons] at h ⊢
    split
    · rename_i c1; rw [if_pos c1] at h; rw [gapN_append x l false (by omega)]
    rename_i c1
    rw [if_neg c1] at h
    split
    · rename_i c2; rw [if_pos c2] at h; rw [gapN_append x l true (by omega)]
    · rfl
theorem skipN_append {l : Bs} (x : Bs) {i : Nat} (hi : i ≤ l.length) (h : skipN l i < l.length) : skipN (l ++ x) i = skipN l i := by
  unfold skipN at h ⊢
  rw [List.drop_append_of_le_length hi, gapN_append x _ _ (by rw [List.length_drop]; omega)]
/-- The tokens of a source without a fault. -/
inductive Chain (l : Bs) : Nat → List Tk → Prop
  | fin (i : Nat) : i ≤ l.length → skipN l i = l.length → Chain l i [⟨0, [], 0, l.length, l.length⟩]
  | cons (i : Nat) (t : Tk) (ts : List Tk) : i ≤ l.length → tokAt l (skipN l i) = .ok t → ¬ t.kind = 0 → t.at_ = skipN l i → t.at_ < t.end_ → t.end_ ≤ l.length → Chain l t.end_ ts → Chain l i (t :: ts)
theorem tokAt_end (l : Bs) : tokAt l l.length = .ok ⟨0, [], 0, l.length, l.length⟩ := by
  unfold tokAt; rw [List.drop_length]
theorem scanN_chain (l : Bs) : ∀ (n i : Nat), i ≤ l.length → l.length + 1 ≤ n + i → (scanN l n i).2 = none → Chain l i (scanN l n i).1
  | 0, i, hi, hn, h => by omega
  | n + 1, i, hi, hn, h => by
    have hsk := skipN_le hi
    have hsg := skipN_ge l i
    cases hr : tokAt l (skipN l i) with
    | error f => rw [scanN_err hr] at h; cases h
    | ok t =>
      by_cases hk : t.kind = 0
      · rw [scanN_end hr hk]
        rcases tokAt_bound hsk hr with ⟨h1, rfl⟩ | ⟨_, h2, _⟩
        · exact .fin i hi h1
        · rcases h2 with h2 | h2 | h2 | h2 <;> rw [h2] at hk <;> exact absurd hk (by decide)
      · rw [scanN_ok hr hk] at h ⊢
        obtain ⟨h1, h2, h3⟩ := tok_cases hsk hr hk
        exact .cons i t _ hi hr hk h1 (by omega) h3 (scanN_chain l n t.end_ h3 (by omega) h)
theorem chain_scanN {l : Bs} {i : Nat} {ts : List Tk} (h : Chain l i ts) : ∀ n, l.length + 1 ≤ n + i → scanN l n i = (ts, none) := by
  induction h with
  | fin i hi hs =>
    intro n hn
    obtain ⟨n, rfl⟩ : ∃ m, n = m + 1 := ⟨n - 1, by omega⟩
    rw [scanN_end (by rw [hs]; exact tokAt_end l) rfl]
  | cons i t ts hi ht hk ha hl he hc ih =>
    intro n hn
    have hsg := skipN_ge l i
    obtain ⟨n, rfl⟩ : ∃ m, n = m + 1 := ⟨n - 1, by omega⟩
    rw [scanN_ok ht hk, ih n (by omega)]
theorem prefix_chain {l : Bs} {ts : List Tk} (h : scanL l = (ts, none)) : l.length ≤ 4096 ∧ Chain l 0 ts := by
  unfold scanL at h
  split at h
  · rename_i hs
    have := congrArg Prod.snd h
    simp only at this
    rw [this] at hs; cases hs
  · unfold prefixL at h
    split at h
    · cases h
    · rename_i hl
      refine ⟨by omega, ?_⟩
      have := scanN_chain l (l.length + 1) 0 (by omega) (by omega) (congrArg Prod.snd h)
      rw [congrArg Prod.fst h] at this
      exact this
theorem chain_prefix {l : Bs} {ts : List Tk} (hl : l.length ≤ 4096) (h : Chain l 0 ts) : scanL l = (ts, none) := by
  have : prefixL l = (ts, none) := by unfold prefixL; rw [if_neg (by omega), chain_scanN h _ (by omega)]
  unfold scanL; rw [this]; rfl

/-! ### A fault that is met first stays. -/
/-- Where a wrong text is wrong. -/
def wrongAt : StrR → Option Nat
  | .byte p => some p
  | .esc p => some p
  | _ => none
theorem strL_wrong : ∀ (n : Nat) (l : Bs) (off : Nat) (acc : Bs) (p : Nat), l.length ≤ n → wrongAt (strL l off acc) = some p → off ≤ p ∧ p < off + l.length
  | n, [], off, acc, p, hn, h => by simp [strL, wrongAt] at h
  | 0, c :: l, off, acc, p, hn, h => by simp at hn
  | n + 1, c :: l, off, acc, p, hn, h => by
    simp only [List.length_cons] at hn ⊢
    rw [strL_cons] at h
    split at h
    · cases h
    split at h
    · cases h; omega
    split at h
    · cases he : escOf l with
      | none => rw [he] at h; cases h; omega
      | some q =>
        obtain ⟨b, m⟩ := q
        have hl := escOf_len he
        rw [he] at h
        have := strL_wrong n _ _ _ _ (by rw [List.length_drop]; omega) h
        rw [List.length_drop] at this
        omega
    · have := strL_wrong n _ _ _ _ (by omega) h
      omega
theorem tok_err_at {r : Bs} (hr : r ≠ []) {f : Int × Nat} (h : tokAt r 0 = .error f) (hf : f.1 ≠ 112) : f.2 < r.length := by
  cases r with
  | nil => exact absurd rfl hr
  | cons c r =>
    rw [tokAt0] at h
    split at h
    · unfold textAt at h
      have hw : ∀ p, wrongAt (strL ((c :: r).drop (0 + 1)) (0 + 1) []) = some p → _ := fun p h => strL_wrong _ ((c :: r).drop (0 + 1)) (0 + 1) [] p (Nat.le_refl _) h
      split at h
      · cases h; exact absurd rfl hf
      · rename_i p hp
        cases h
        have := hw p (by rw [hp]; rfl)
        simp only [List.length_cons, List.length_drop] at this ⊢
        omega
      · rename_i p hp
        cases h
        have := hw p (by rw [hp]; rfl)
        simp only [List.length_cons, List.length_drop] at this ⊢
        omega
      · split at h
        · cases h; simp
        · cases h
    split at h
    · split at h
      · cases h
      · cases h; simp
    split at h
    · cases h
    split at h
    · cases h
    · cases h; simp
theorem scanN_ext {l x : Bs} (hx : sepH x = true) : ∀ (n i : Nat) (ts : List Tk) (f : Int × Nat), i ≤ l.length → f.1 ≠ 112 → scanN l n i = (ts, some f) → ∀ m, n ≤ m → scanN (l ++ x) m i = (ts, some f) ∧ f.2 < l.length
  | 0, i, ts, f, hi, hf, h, m, hm => by simp [scanN] at h
  | n + 1, i, ts, f, hi, hf, h, m, hm => by
    obtain ⟨m, rfl⟩ : ∃ k, m = k + 1 := ⟨m - 1, by omega⟩
    have hsk := skipN_le hi
    have hlt : skipN l i < l.length := by
      rcases Nat.lt_or_ge (skipN l i) l.length with h1 | h1
      · exact h1
      · have e : skipN l i = l.length := by omega
        rw [scanN_end (by rw [e]; exact tokAt_end l) rfl] at h
        cases h
    have hne : l.drop (skipN l i) ≠ [] := by
      intro e
      have := congrArg List.length e
      rw [List.length_drop] at this
      simp at this; omega
    have hs2 := skipN_append x hi hlt
    have ht2 : tokAt (l.drop (skipN l i)) 0 ≠ .error (112, 0) → tokAt (l ++ x) (skipN (l ++ x) i) = tokAt l (skipN l i) := by
      intro h0
      rw [hs2, tokAt_drop (l ++ x) _ (by rw [List.length_append]; omega), List.drop_append_of_le_length hsk, tokAt_ext hne hx h0, ← tokAt_drop l _ hsk]
    cases hr : tokAt l (skipN l i) with
    | error g =>
      rw [scanN_err hr] at h
      cases h
      have h0 : tokAt (l.drop (skipN l i)) 0 ≠ .error (112, 0) := by
        intro e
        rw [tokAt_drop l _ hsk, e] at hr
        cases hr
        exact hf rfl
      rw [scanN_err (by rw [ht2 h0]; exact hr)]
      refine ⟨rfl, ?_⟩
      rw [tokAt_drop l _ hsk] at hr
      cases hr0 : tokAt (l.drop (skipN l i)) 0 with
      | ok t => rw [hr0] at hr; cases hr
      | error g0 =>
        rw [hr0] at hr
        cases hr
        have := tok_err_at hne hr0 hf
        rw [List.length_drop] at this
        simp only
        omega
    | ok t =>
      have h0 : tokAt (l.drop (skipN l i)) 0 ≠ .error (112, 0) := by
        intro e
        rw [tokAt_drop l _ hsk, e] at hr
        cases hr
      by_cases hk : t.kind = 0
      · rw [scanN_end hr hk] at h; cases h
      · rw [scanN_ok hr hk] at h
        obtain ⟨h1, h2, h3⟩ := tok_cases hsk hr hk
        have h5 : (scanN l n t.end_).2 = some f := congrArg Prod.snd h
        have h6 : t :: (scanN l n t.end_).1 = ts := congrArg Prod.fst h
        have h4 : scanN l n t.end_ = ((scanN l n t.end_).1, some f) := Prod.ext rfl h5
        have ih := scanN_ext hx n t.end_ _ f h3 hf h4 m (by omega)
        rw [scanN_ok (by rw [ht2 h0]; exact hr) hk, ih.1]
        exact ⟨by rw [← h6], ih.2⟩
/-- LexFirst, the plain law. -/
theorem first_stays {l x : Bs} {c : Int} {a : Nat} (h : scanL l = ([], some (c, a))) (h1 : c ≠ 110) (h2 : c ≠ 112) (hx : sepH x = true) (hl : (l ++ x).length ≤ 4096) : scanL (l ++ x) = ([], some (c, a)) ∧ a < l.length := by
  have hl2 : l.length ≤ 4096 := by rw [List.length_append] at hl; omega
  have hp : (prefixL l).2 = some (c, a) := by
    unfold scanL at h
    split at h
    · exact congrArg Prod.snd h
    · rename_i hs; rw [h] at hs; exact absurd rfl hs
  unfold prefixL at hp
  rw [if_neg (by omega)] at hp
  have := scanN_ext hx (l.length + 1) 0 _ (c, a) (by omega) h2 (Prod.ext rfl hp) ((l ++ x).length + 1) (by rw [List.length_append]; omega)
  refine ⟨?_, this.2⟩
  have hp2 : prefixL (l ++ x) = ((scanN l (l.length + 1) 0).1, some (c, a)) := by unfold prefixL; rw [if_neg (by omega)]; exact this.1
  unfold scanL; rw [hp2]; rfl

/-! ### Sources put together. -/
/-- A gap that ends. -/
def Closed (g : Bs) : Prop := ∀ y, gapN false (g ++ y) = g.length + gapN false y
theorem closed_end {g : Bs} (h : Closed g) : gapN false g = g.length := by have := h []; rw [List.append_nil] at this; rw [this]; simp [gapN]
/-- A token's bytes are no gap. -/
theorem tok_no_gap {o : Bs} {t : Tk} (h : tokAt o 0 = .ok t) (hk : ¬ t.kind = 0) (x : Bs) : gapN false (o ++ x) = 0 := by
  cases o with
  | nil => simp only [tokAt, List.drop_nil] at h; cases h; exact absurd rfl hk
  | cons c o =>
    have hb : ∀ c : UInt8, (blankB c = true ∨ c = 35) → sepB c = true := by
      intro c h
      rcases h with h | rfl
      · simp only [blankB, Bool.or_eq_true, beq_iff_eq] at h
        rcases h with ((rfl | rfl) | rfl) | rfl <;> rfl
      · rfl
    have hn : ¬ sepB c = true := by
      intro hs
      obtain ⟨h1, h2, h3, h4, _⟩ := sep_facts c hs
      have h5 : ¬ c = 45 := by rintro rfl; exact absurd hs (by decide)
      rw [tokAt0, if_neg (fun e => h4 (.inl e)), if_neg (by rw [h2, beq_eq_false_iff_ne.2 h5]; simp), if_neg (by rw [h1]; decide)] at h
      split at h
      · rename_i m hm
        obtain ⟨k1, k2⟩ := findMark_some _ _ _ hm
        have k3 := marks_pos m k1
        have k4 := (marks_short m k1).2
        cases m with
        | nil => simp at k3
        | cons a m' =>
          have k5 := List.isPrefixOf_iff_prefix.1 k2
          have k6 : a = c := by obtain ⟨z, hz⟩ := k5; injection hz
          have := (k4 a List.mem_cons_self).1
          rw [k6, hs] at this; cases this
      · cases h
    simp only [List.cons_append, gapN]
    rw [if_neg (fun e => hn (hb c (.inl e))), if_neg (fun e => hn (hb c (.inr e)))]
/-- Gaps and tokens in turn, a gap at the end. -/
def joinT : List (Bs × Bs × Tk) → Bs → Bs
  | [], e => e
  | (g, o, _) :: xs, e => g ++ (o ++ joinT xs e)
/-- The tokens, where they have come to stand; the end. -/
def toksT (total : Nat) : Nat → List (Bs × Bs × Tk) → List Tk
  | _, [] => [⟨0, [], 0, total, total⟩]
  | k, (g, o, t) :: xs => { t with at_ := k + g.length, end_ := k + g.length + o.length } :: toksT total (k + g.length + o.length) xs
theorem tok_own {o : Bs} {t : Tk} (h : tokAt o 0 = .ok t) (hk : ¬ t.kind = 0) : t.at_ = 0 ∧ 0 < t.end_ ∧ t.end_ ≤ o.length := tok_cases (Nat.zero_le _) h hk
theorem sepH_join (xs : List (Bs × Bs × Tk)) (e : Bs) (hxs : ∀ p ∈ xs, p.1 ≠ [] ∧ sepH p.1 = true) (he : sepH e = true) : sepH (joinT xs e) = true := by
  cases xs with
  | nil => exact he
  | cons p xs =>
    obtain ⟨g, o, t⟩ := p
    obtain ⟨h1, h2⟩ := hxs _ List.mem_cons_self
    cases g with
    | nil => exact absurd rfl h1
    | cons c g => exact h2
theorem chain_join (e : Bs) (he : Closed e) (hes : sepH e = true) : ∀ (xs : List (Bs × Bs × Tk)) (u : Bs), (∀ p ∈ xs, p.1 ≠ [] ∧ sepH p.1 = true ∧ Closed p.1 ∧ tokAt p.2.1 0 = .ok p.2.2 ∧ ¬ p.2.2.kind = 0 ∧ p.2.2.end_ = p.2.1.length) →
    Chain (u ++ joinT xs e) u.length (toksT (u ++ joinT xs e).length u.length xs)
  | [], u, h => by
    refine .fin _ (by rw [List.length_append]; omega) ?_
    unfold skipN
    rw [List.drop_left, joinT, closed_end he, List.length_append]
  | (g, o, t) :: xs, u, h => by
    obtain ⟨h1, h2, h3, h4, h5, h6⟩ := h _ List.mem_cons_self
    simp only at h1 h2 h3 h4 h5 h6
    obtain ⟨k1, k2, k3⟩ := tok_own h4 h5
    have hsep : sepH (joinT xs e) = true := sepH_join xs e (fun p hp => ⟨(h p (List.mem_cons_of_mem _ hp)).1, (h p (List.mem_cons_of_mem _ hp)).2.1⟩) hes
    have e1 : u ++ joinT ((g, o, t) :: xs) e = (u ++ g) ++ (o ++ joinT xs e) := by simp [joinT]
    have e2 : u ++ joinT ((g, o, t) :: xs) e = (u ++ g ++ o) ++ joinT xs e := by simp [joinT]
    have hsk : skipN (u ++ joinT ((g, o, t) :: xs) e) u.length = (u ++ g).length := by
      unfold skipN
      rw [List.drop_left, joinT, h3, tok_no_gap h4 h5, List.length_append]
      omega
    have ho : o ≠ [] := by rintro rfl; simp at k3; omega
    have htk : tokAt (u ++ joinT ((g, o, t) :: xs) e) (u ++ g).length = .ok { t with at_ := u.length + g.length, end_ := u.length + g.length + o.length } := by
      rw [e1, tokAt_shift, tokAt_ext ho hsep (by rw [h4]; exact fun e => by cases e), h4]
      simp only [shR, shT, k1, h6, List.length_append]
      congr 2 <;> omega
    have ih := chain_join e he hes xs (u ++ g ++ o) (fun p hp => h p (List.mem_cons_of_mem _ hp))
    rw [← e2] at ih
    have e3 : (u ++ g ++ o).length = u.length + g.length + o.length := by rw [List.length_append, List.length_append]
    rw [e3] at ih
    have hlen : (u ++ joinT ((g, o, t) :: xs) e).length = u.length + g.length + o.length + (joinT xs e).length := by rw [e2, List.length_append, e3]
    refine .cons _ _ _ (by omega) (by rw [hsk]; exact htk) h5 (by rw [hsk]; simp) (by simp only; omega) (by simp only; omega) ih

end Go.Proofs.YthcdmnndhjbbfaaDoor.X
