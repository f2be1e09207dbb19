/-
  Plain law of LexCovers: gaps alone between the tokens; each token is what its own bytes say; the faults' codes and places.
-/
import Derived.Test.YtghhnnbbjlipcaaDoorLexAl
import Derived.Test.YtghhnnbbjlipcaaDoorLexV
import Derived.Lib.AtoiAllCases
set_option linter.unusedVariables false
set_option linter.unusedSimpArgs false
namespace Go.Proofs.YtghhnnbbjlipcaaDoor.X
/-- What gapOnly goes through: in a remark or not; none: a byte that is no gap's. -/
def gapS : Bool → Bs → Option Bool
  | r, [] => some r
  | true, c :: l => gapS (c != 10) l
  | false, c :: l => if c = 35 then gapS true l else if blankB c then gapS false l else none
def gapV (last : Bool) : Option Bool → Bool
  | none => false
  | some r => !r || last
theorem gapS_take : ∀ (l : Bs) (b : Bool), ∃ r, gapS b (l.take (gapN b l)) = some r ∧ (r = true → gapN b l = l.length)
  | [], b => ⟨b, by cases b <;> rfl, fun _ => by cases b <;> rfl⟩
  | c :: l, true => by
    simp only [gapN]
    split
    · rename_i h
      obtain ⟨r, h1, h2⟩ := gapS_take l false
      exact ⟨r, by rw [List.take_succ_cons]; simp only [gapS, h]; exact h1, fun e => by rw [h2 e, List.length_cons]⟩
    · rename_i h
      obtain ⟨r, h1, h2⟩ := gapS_take l true
      have hc : (c != 10) = true := by simpa using h
      exact ⟨r, by rw [List.take_succ_cons]; simp only [gapS, hc]; exact h1, fun e => by rw [h2 e, List.length_cons]⟩
  | c :: l, false => by
    simp only [gapN]
    split
    · rename_i h
      obtain ⟨r, h1, h2⟩ := gapS_take l false
      have hc : ¬ c = 35 := by rintro rfl; exact absurd h (by decide)
      exact ⟨r, by rw [List.take_succ_cons]; simp only [gapS, if_neg hc, h, if_true]; exact h1, fun e => by rw [h2 e, List.length_cons]⟩
    split
    · rename_i h0 h
      obtain ⟨r, h1, h2⟩ := gapS_take l true
      exact ⟨r, by rw [List.take_succ_cons]; simp only [gapS, if_pos h]; exact h1, fun e => by rw [h2 e, List.length_cons]⟩
    · exact ⟨false, rfl, fun e => by cases e⟩
/-- What lies between a place and the next token. -/
theorem gap_between (l : Bs) (i : Nat) (hi : i ≤ l.length) (last : Bool) (hl : skipN l i < l.length ∨ last = true) : gapV last (gapS false ((l.drop i).take (skipN l i - i))) = true := by
  obtain ⟨r, h1, h2⟩ := gapS_take (l.drop i) false
  rw [show skipN l i - i = gapN false (l.drop i) by unfold skipN; omega, h1]
  cases r with
  | false => rfl
  | true =>
    have h3 := h2 rfl
    rw [List.length_drop] at h3
    rcases hl with h | h
    · unfold skipN at h; omega
    · rw [h]; rfl
/-- What a token's own bytes say. -/
def TokSays (o : Bs) (t : Tk) : Prop :=
  (t.kind = 1 ∧ unqL o = .ok t.text ∧ t.num = 0) ∨ (t.kind = 2 ∧ o = Lib.itoa t.num ∧ t.text = [] ∧ -9223372036854775808 ≤ t.num ∧ t.num ≤ 9223372036854775807) ∨ ((t.kind = 3 ∨ t.kind = 4) ∧ o = t.text ∧ t.num = 0)
theorem tok_says {o : Bs} {t : Tk} (h : tokAt o 0 = .ok t) (hk : ¬ t.kind = 0) (he : t.end_ = o.length) (hl : o.length ≤ 4096) : TokSays o t := by
  cases o with
  | nil => simp only [tokAt, List.drop_nil] at h; cases h; exact absurd rfl hk
  | cons c r =>
    have h0 := h
    rw [tokAt0] at h
    split at h
    · rename_i c1
      left
      have h1 : t.kind = 1 ∧ t.num = 0 := by
        unfold textAt at h
        split at h
        · cases h
        · cases h
        · cases h
        · split at h
          · cases h
          · cases h; exact ⟨rfl, rfl⟩
      refine ⟨h1.1, ?_, h1.2⟩
      unfold unqL
      rw [if_neg (by omega), if_pos (by rw [c1]; rfl), h]
      simp only [unqC]
      rw [if_neg (by omega)]
    split at h
    · split at h
      · rename_i n hn
        cases h
        right; left
        simp only at he ⊢
        have hr : runL (c :: r) = c :: r := by
          have := run_take (c :: r)
          rw [show (runL (c :: r)).length = (c :: r).length by omega, List.take_length] at this
          exact this.symm
        rw [hr] at hn
        unfold numOf at hn
        split at hn
        · rename_i m hm
          have hb := Lib.atoiAll_bounds hm
          by_cases h5 : Lib.itoa m = (c :: r : Bs) ∧ (if (c :: r : Bs).head? = some 45 then (c :: r : Bs).tail else (c :: r : Bs)).length ≤ 18
          · rw [if_pos h5] at hn
            cases hn
            exact ⟨trivial, h5.1.symm, trivial, hb.1, hb.2⟩
          · rw [if_neg h5] at hn; cases hn
        · cases hn
      · cases h
    split at h
    · cases h
      right; right
      simp only at he ⊢
      have hr : runL (c :: r) = c :: r := by
        have := run_take (c :: r)
        rw [show (runL (c :: r)).length = (c :: r).length by omega, List.take_length] at this
        exact this.symm
      exact ⟨.inl trivial, hr.symm, trivial⟩
    split at h
    · rename_i m hm
      cases h
      right; right
      simp only at he ⊢
      obtain ⟨k1, k2⟩ := findMark_some _ _ _ hm
      have k3 := List.isPrefixOf_iff_prefix.1 k2
      exact ⟨.inr trivial, (k3.eq_of_length (by omega)).symm, trivial⟩
    · cases h
theorem tokAt_codes {l : Bs} {i : Nat} {f : Int × Nat} (hi : i < l.length) (h : tokAt l i = .error f) : f.2 ≤ l.length ∧ 111 ≤ f.1 ∧ f.1 ≤ 115 := by
  have hne : l.drop i ≠ [] := by
    intro e
    have := congrArg List.length e
    rw [List.length_drop] at this
    simp at this; omega
  rw [tokAt_drop l i (by omega)] at h
  cases h0 : tokAt (l.drop i) 0 with
  | ok t => rw [h0] at h; cases h
  | error g =>
    rw [h0] at h
    cases h
    simp only
    have hc : 111 ≤ g.1 ∧ g.1 ≤ 115 ∧ (g.1 = 112 → g.2 = 0) := by
      cases hd : l.drop i with
      | nil => exact absurd hd hne
      | cons c r =>
        rw [hd, tokAt0] at h0
        split at h0
        · unfold textAt at h0
          split at h0
          · cases h0; simp
          · cases h0; simp
          · cases h0; simp
          · split at h0
            · cases h0; simp
            · cases h0
        split at h0
        · split at h0
          · cases h0
          · cases h0; simp
        split at h0
        · cases h0
        split at h0
        · cases h0
        · cases h0; simp
    refine ⟨?_, hc.1, hc.2.1⟩
    by_cases h112 : g.1 = 112
    · have := hc.2.2 h112; omega
    · have := tok_err_at hne h0 h112
      rw [List.length_drop] at this
      omega
theorem scanN_codes (l : Bs) : ∀ (n i : Nat) (f : Int × Nat), i ≤ l.length → (scanN l n i).2 = some f → f.2 ≤ l.length ∧ 111 ≤ f.1 ∧ f.1 ≤ 115
  | 0, i, f, hi, h => by simp [scanN] at h
  | n + 1, i, f, hi, h => by
    have hsk := skipN_le hi
    cases hr : tokAt l (skipN l i) with
    | error g =>
      rw [scanN_err hr] at h
      cases h
      have hlt : skipN l i < l.length := by
        rcases Nat.lt_or_ge (skipN l i) l.length with h1 | h1
        · exact h1
        · rw [show skipN l i = l.length by omega, tokAt_end] at hr; cases hr
      exact tokAt_codes hlt hr
    | ok t =>
      by_cases hk : t.kind = 0
      · rw [scanN_end hr hk] at h; cases h
      · rw [scanN_ok hr hk] at h
        exact scanN_codes l n t.end_ f (tok_cases hsk hr hk).2.2 h
/-- The fault of a source. -/
theorem scan_fault {l : Bs} {c : Int} {a : Nat} (h : scanL l = ([], some (c, a))) : a ≤ l.length ∧ 110 ≤ c ∧ c ≤ 115 ∧ (4096 < l.length ↔ c = 110) := by
  have hp : (prefixL l).2 = some (c, a) := by
    unfold scanL at h
    split at h
    · exact congrArg Prod.snd h
    · rename_i hs; rw [h] at hs; exact absurd rfl hs
  unfold prefixL at hp
  split at hp
  · cases hp; exact ⟨by omega, by omega, by omega, by simp; omega⟩
  · have := scanN_codes l _ 0 (c, a) (Nat.zero_le _) hp
    simp only at this
    exact ⟨this.1, by omega, this.2.2, by omega⟩

end Go.Proofs.YtghhnnbbjlipcaaDoor.X
