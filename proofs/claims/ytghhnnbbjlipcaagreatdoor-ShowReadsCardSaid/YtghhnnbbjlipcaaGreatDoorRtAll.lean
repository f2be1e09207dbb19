/-
  Plain law: a tree in postorder as subtrees, one behind the other.
  Plain law: a tree's text as pieces: tokens and blanks.
  Plain law: the pieces of a tree's text fit one behind the other.
  Plain law: the descent over the tokens of a tree's text: rows, lists, sets.
  Plain law: the descent over the tokens of a tree's text comes to that tree.
  Plain law: the descent over the tokens of a tree's text: terms.
  Plain law: what a tree's text says reads as that tree.
  Plain law: a tree's text reads as that tree.
-/
import Derived.Test.YtghhnnbbjlipcaaGreatDoorPlAll
import Derived.Lib.ItoaNum
set_option linter.unusedVariables false
set_option linter.unusedSimpArgs false
namespace Go.Proofs.YtghhnnbbjlipcaaGreatDoor.X
def noP : PD := ⟨0, [], 0, []⟩
abbrev at_ (ps : List PD) (i : Nat) : PD := ps.getD i noP
/-- Stretches one behind the other, from a up to b. -/
def Cvr (a : Nat) : List (Nat × Nat) → Nat → Prop
  | [], b => a = b
  | s :: ss, b => s.1 = a ∧ Cvr (s.2 + 1) ss b
theorem cvr_app : ∀ (xs ys : List (Nat × Nat)) (a c : Nat), Cvr a (xs ++ ys) c → ∃ b, Cvr a xs b ∧ Cvr b ys c
  | [], ys, a, c, h => ⟨a, rfl, h⟩
  | x :: xs, ys, a, c, h => by
    obtain ⟨h1, h2⟩ := h
    obtain ⟨b, h3, h4⟩ := cvr_app xs ys _ _ h2
    exact ⟨b, ⟨h1, h3⟩, h4⟩
theorem cvr_join : ∀ (xs ys : List (Nat × Nat)) (a b c : Nat), Cvr a xs b → Cvr b ys c → Cvr a (xs ++ ys) c
  | [], ys, a, b, c, h, h2 => by cases h; exact h2
  | x :: xs, ys, a, b, c, h, h2 => ⟨h.1, cvr_join xs ys _ b c h.2 h2⟩
/-- The parts from a up to r are the tree whose root is r. -/
inductive Sub (ps : List PD) : Nat → Nat → Prop
  | mk (a r : Nat) (segs : List (Nat × Nat)) : r < ps.length → (at_ ps r).kids = segs.map Prod.snd → Cvr a segs r → (∀ s ∈ segs, Sub ps s.1 s.2) → Sub ps a r
theorem runF_sub (ps : List PD) : ∀ (d i : Nat) (segs : List (Nat × Nat)) (R : List Nat), d = ps.length - i → i ≤ ps.length → Cvr 0 segs i → (∀ s ∈ segs, Sub ps s.1 s.2) → runF (segs.map Prod.snd) i (ps.drop i) = some R →
    ∃ segs2, R = segs2.map Prod.snd ∧ Cvr 0 segs2 ps.length ∧ ∀ s ∈ segs2, Sub ps s.1 s.2
  | 0, i, segs, R, hd, hi, hc, hs, h => by
    obtain rfl : i = ps.length := by omega
    rw [List.drop_length] at h
    injection h with h
    exact ⟨segs, h.symm, hc, hs⟩
  | d + 1, i, segs, R, hd, hi, hc, hs, h => by
    have hlt : i < ps.length := by omega
    rw [List.drop_eq_getElem_cons hlt] at h
    simp only [runF, stepF] at h
    have hat : at_ ps i = ps[i] := by rw [at_, List.getD_eq_getElem?_getD, List.getElem?_eq_getElem hlt]; rfl
    split at h
    · cases h
    · rename_i f hf
      split at hf
      · rename_i hfit
        injection hf with hf
        have hl := hfit.1
        rw [List.length_map] at hl
        have hk := hfit.2.1
        rw [List.length_map, ← List.map_drop] at hk
        have hsp : segs = segs.take (segs.length - ps[i].kids.length) ++ segs.drop (segs.length - ps[i].kids.length) := (List.take_append_drop _ _).symm
        rw [hsp] at hc
        obtain ⟨b, c1, c2⟩ := cvr_app _ _ _ _ hc
        have hsub : Sub ps b i := .mk b i _ hlt (by rw [hat]; exact hk.symm) c2 (fun s hm => hs s (List.mem_of_mem_drop hm))
        have hfe : f = (segs.take (segs.length - ps[i].kids.length) ++ [(b, i)]).map Prod.snd := by
          rw [← hf, List.length_map, ← List.map_take, List.map_append]; rfl
        rw [hfe] at h
        exact runF_sub ps d (i + 1) _ R (by omega) (by omega) (cvr_join _ [(b, i)] _ b _ c1 (show b = b ∧ i + 1 = i + 1 from ⟨rfl, rfl⟩)) (fun s hm => by
          rcases List.mem_append.1 hm with hm | hm
          · exact hs s (List.mem_of_mem_take hm)
          · rw [List.mem_singleton.1 hm]; exact hsub) h
      · cases hf
/-- A tree in postorder is one subtree. -/
theorem sub_of_run {ps : List PD} {r : Nat} (h : runF [] 0 ps = some [r]) : Sub ps 0 r ∧ r + 1 = ps.length := by
  obtain ⟨segs, h1, h2, h3⟩ := runF_sub ps ps.length 0 [] [r] rfl (Nat.zero_le _) rfl (fun s hs => by cases hs) (by simpa using h)
  match segs, h1, h2, h3 with
  | [s], h1, h2, h3 =>
    simp only [List.map_cons, List.map_nil, List.cons.injEq, and_true] at h1
    obtain ⟨h4, h5⟩ := h2
    have := h3 s (List.mem_singleton.2 rfl)
    rw [h4, ← h1] at this
    simp only [Cvr] at h5
    exact ⟨this, by omega⟩
  | [], h1, _, _ => simp at h1
  | _ :: _ :: _, h1, _, _ => simp at h1
theorem Sub.le {ps : List PD} {a r : Nat} (h : Sub ps a r) : a ≤ r := by
  induction h with
  | mk a r segs h1 h2 h3 h4 ih =>
    have : ∀ (ss : List (Nat × Nat)) (a : Nat), (∀ s ∈ ss, s.1 ≤ s.2) → Cvr a ss r → a ≤ r := by
      intro ss
      induction ss with
      | nil => intro a _ h; exact Nat.le_of_eq h
      | cons s ss ih2 =>
        intro a hs h
        have h5 := hs s List.mem_cons_self
        have h6 := ih2 (s.2 + 1) (fun t ht => hs t (List.mem_cons_of_mem _ ht)) h.2
        have := h.1
        omega
    exact this segs a ih h3
theorem cvr_lt {ps : List PD} : ∀ {ss : List (Nat × Nat)} {a b : Nat}, (∀ s ∈ ss, Sub ps s.1 s.2) → Cvr a ss b → ∀ s ∈ ss, a ≤ s.1 ∧ s.2 < b
  | [], a, b, _, _, s, hs => by cases hs
  | x :: xs, a, b, hs, hc, s, hm => by
    obtain ⟨h1, h2⟩ := hc
    have hx := (hs x List.mem_cons_self).le
    have hle : x.2 + 1 ≤ b := by
      have : ∀ (ss : List (Nat × Nat)) (a : Nat), (∀ s ∈ ss, Sub ps s.1 s.2) → Cvr a ss b → a ≤ b := by
        intro ss
        induction ss with
        | nil => intro a _ h; exact Nat.le_of_eq h
        | cons s ss ih2 =>
          intro a hs h
          have h5 := (hs s List.mem_cons_self).le
          have h6 := ih2 (s.2 + 1) (fun t ht => hs t (List.mem_cons_of_mem _ ht)) h.2
          have := h.1
          omega
      exact this xs _ (fun s hs2 => hs s (List.mem_cons_of_mem _ hs2)) h2
    rcases List.mem_cons.1 hm with rfl | hm
    · omega
    · have := cvr_lt (fun s hs2 => hs s (List.mem_cons_of_mem _ hs2)) h2 s hm
      omega
theorem Sub.kids {ps : List PD} {a r : Nat} (h : Sub ps a r) : r < ps.length ∧ ∀ k ∈ (at_ ps r).kids, k < r := by
  cases h with
  | mk _ _ segs h1 h2 h3 h4 =>
    refine ⟨h1, fun k hk => ?_⟩
    rw [h2, List.mem_map] at hk
    obtain ⟨s, hs, rfl⟩ := hk
    exact (cvr_lt h4 h3 s hs).2

end Go.Proofs.YtghhnnbbjlipcaaGreatDoor.X
set_option linter.unusedVariables false
set_option linter.unusedSimpArgs false
namespace Go.Proofs.YtghhnnbbjlipcaaGreatDoor.X
def brB (a b : Int) : Bool := if a = 3 ∨ a = 4 then (b == 4 || b == 5) else if a = 5 then b == 5 else false
def sideW (n : Int) : Bs := if n = 1 then [112, 111, 100] else if n = 2 then [110, 111, 100, 101] else [105, 116]
def cmpW (n : Int) : Bs := if n = 1 then [61, 61] else if n = 2 then [33, 61] else if n = 3 then [60] else if n = 4 then [60, 61] else if n = 5 then [62] else [62, 61]
abbrev sp : Piece := .gap [32]
abbrev pQ (s : Bs) : Piece := .tok (quoteL s) ⟨1, s, 0, 0, (quoteL s).length⟩
abbrev pN (n : Int) : Piece := .tok (Lib.itoa n) ⟨2, [], n, 0, (Lib.itoa n).length⟩
def onePc (ps : List PD) (p : PD) (f : Nat → List Piece) (k : Nat) : List Piece := if brB p.kind (at_ ps k).kind then pM [40] :: (f k ++ [pM [41]]) else f k
def joinPc (ps : List PD) (p : PD) (sep : List Piece) (f : Nat → List Piece) : List Nat → List Piece
  | [] => []
  | k :: ks => onePc ps p f k ++ ks.flatMap (fun k => sep ++ onePc ps p f k)
def selPc (ps : List PD) (p : PD) (f : Nat → List Piece) (word : Bs) : List Piece := [pW word, pM [40], pQ p.text, pM [44], sp] ++ joinPc ps p [] f p.kids ++ [pM [41]]
def termPc (ps : List PD) (p : PD) (f : Nat → List Piece) : List Piece :=
  if p.kind = 10 then [pW [116, 111, 108, 101, 114, 97, 116, 101, 100], pM [40], pQ p.text, pM [41]]
  else if p.kind = 11 then [pQ p.text]
  else if p.kind = 12 then [pN p.num]
  else if p.kind = 13 then [pM [123]] ++ joinPc ps p [pM [44], sp] f p.kids ++ [pM [125]]
  else if p.kind = 14 then [pW (sideW p.num), pM [91], pQ p.text, pM [93]]
  else if p.kind = 15 then [pW (sideW p.num), pM [46], pW [110, 97, 109, 101]]
  else if p.kind = 16 then [pW (sideW p.num), pM [46], pW [107, 101, 121, 115]]
  else if p.kind = 17 then [pW (sideW p.num), pM [46], pW [116, 97, 105, 110, 116, 115]]
  else if p.kind = 18 then [pW (sideW p.num), pM [46], pW [99, 97, 112], pM [40], pQ p.text, pM [41]]
  else if p.kind = 19 then [pW [105, 110, 116], pM [40]] ++ joinPc ps p [] f p.kids ++ [pM [41]]
  else []
def partPc (ps : List PD) (p : PD) (f : Nat → List Piece) : List Piece :=
  if p.kind = 1 then [pW [116, 114, 117, 101]]
  else if p.kind = 2 then [pW [102, 97, 108, 115, 101]]
  else if p.kind = 3 then [pM [33]] ++ joinPc ps p [] f p.kids
  else if p.kind = 4 then joinPc ps p [sp, pM [38, 38], sp] f p.kids
  else if p.kind = 5 then joinPc ps p [sp, pM [124, 124], sp] f p.kids
  else if p.kind = 6 then joinPc ps p [sp, pM (cmpW p.num), sp] f p.kids
  else if p.kind = 7 then (if p.num = 0 then joinPc ps p [sp, pW [105, 110], sp] f p.kids else joinPc ps p [sp, pW [110, 111, 116, 105, 110], sp] f p.kids)
  else if p.kind = 8 then selPc ps p f [110, 101, 97, 114]
  else if p.kind = 9 then selPc ps p f [97, 112, 97, 114, 116]
  else if p.kind = 20 then selPc ps p f [99, 111, 117, 110, 116]
  else termPc ps p f

/-! ### What is asked of each part -/
def condK (k : Int) : Prop := 1 ≤ k ∧ k ≤ 10
def termK (k : Int) : Prop := 11 ≤ k ∧ k ≤ 20
/-- A part as its kind allows it; its kids are of the class that it takes. -/
structure Fit (ps : List PD) (p : PD) : Prop where
  kind : 1 ≤ p.kind ∧ p.kind ≤ 20
  text : p.text.length ≤ 127
  notext : ¬ (p.kind = 8 ∨ p.kind = 9 ∨ p.kind = 10 ∨ p.kind = 11 ∨ p.kind = 14 ∨ p.kind = 18 ∨ p.kind = 20) → p.text = []
  cmp : p.kind = 6 → 1 ≤ p.num ∧ p.num ≤ 6
  isin : p.kind = 7 → p.num = 0 ∨ p.num = 1
  num : p.kind = 12 → -999999999999999999 ≤ p.num ∧ p.num ≤ 999999999999999999
  side : 14 ≤ p.kind ∧ p.kind ≤ 18 → 1 ≤ p.num ∧ p.num ≤ 3
  nonum : ¬ (p.kind = 6 ∨ p.kind = 7 ∨ p.kind = 12 ∨ (14 ≤ p.kind ∧ p.kind ≤ 18)) → p.num = 0
  one : p.kind = 3 ∨ p.kind = 8 ∨ p.kind = 9 ∨ p.kind = 19 ∨ p.kind = 20 → p.kids.length = 1
  more : p.kind = 4 ∨ p.kind = 5 → 2 ≤ p.kids.length
  two : p.kind = 6 ∨ p.kind = 7 → p.kids.length = 2
  set_ : p.kind = 13 → p.kids.length ≤ 64
  none_ : ¬ (p.kind = 3 ∨ p.kind = 4 ∨ p.kind = 5 ∨ p.kind = 6 ∨ p.kind = 7 ∨ p.kind = 8 ∨ p.kind = 9 ∨ p.kind = 13 ∨ p.kind = 19 ∨ p.kind = 20) → p.kids = []
  conds : p.kind = 3 ∨ p.kind = 4 ∨ p.kind = 5 ∨ p.kind = 8 ∨ p.kind = 9 ∨ p.kind = 20 → ∀ k ∈ p.kids, condK (at_ ps k).kind
  leafs : p.kind = 13 → ∀ k ∈ p.kids, (at_ ps k).kind = 11 ∨ (at_ ps k).kind = 12
  terms : p.kind = 6 ∨ p.kind = 7 ∨ p.kind = 19 → ∀ k ∈ p.kids, termK (at_ ps k).kind
/-- A tree whose parts all fit, with the pieces of its text. -/
structure TreeF (ps : List PD) (f : Nat → List Piece) : Prop where
  fit : ∀ i, i < ps.length → Fit ps (at_ ps i)
  eq : ∀ i, i < ps.length → f i = partPc ps (at_ ps i) f

/-! ### The pieces fit one behind the other -/
theorem bytes_app (a b : List Piece) : bytesOf (a ++ b) = bytesOf a ++ bytesOf b := by simp [bytesOf]
theorem bytes_cons (p : Piece) (b : List Piece) : bytesOf (p :: b) = p.bytes ++ bytesOf b := by simp [bytesOf]
/-- Bytes that may stand behind a word, and no equality sign. -/
def okH (v : Bs) : Prop := stopH v = true
theorem fitM1 {c : UInt8} (hc : c = 40 ∨ c = 41 ∨ c = 91 ∨ c = 93 ∨ c = 123 ∨ c = 125 ∨ c = 44 ∨ c = 46) (r : List Piece) (hr : fitsAll r) : fitsAll (pM [c] :: r) := ⟨fit1 hc _, hr⟩
theorem fitSp {r : List Piece} (hr : fitsAll r) : fitsAll (sp :: r) := ⟨gap_sp, hr⟩
theorem dig_len : ∀ (k u : Nat), u < 10 ^ (k + 1) → (Lib.decDigits u).length ≤ k + 1 := by
  intro k u h
  rw [Lib.decDigits_length]
  induction k generalizing u with
  | zero => rw [Lib.nDigits_small (by simpa using h)]; exact Nat.le_refl _
  | succ k ih =>
    rw [Lib.nDigits]
    split
    · omega
    · have := ih (u / 10) (by rw [Nat.pow_succ] at h; omega)
      omega
theorem digs_word {l : Bs} (h : digsB l = true) : l.all wordB = true := by
  rw [List.all_eq_true]
  intro x hx
  have := List.all_eq_true.1 h x hx
  simp [wordB, this]
theorem num_itoa (n : Int) (h0 : -999999999999999999 ≤ n) (h1 : n ≤ 999999999999999999) : ∃ c o, Lib.itoa n = c :: o ∧ (digB c = true ∨ (c = 45 ∧ headD o = true)) ∧ o.all wordB = true ∧ numOf (c :: o) = some n := by
  by_cases hn : n < 0
  · obtain ⟨u, rfl⟩ : ∃ u : Nat, n = -(u : Int) := ⟨n.natAbs, by omega⟩
    have hu : 1 ≤ u := by omega
    obtain ⟨v1, v2, v3, v4⟩ := val_dec u
    have hl := dig_len 17 u (by omega)
    have hnum := num_minus (Lib.decDigits u) v2 v1 hl (fun e => by have := v3 e; omega)
    rw [v4] at hnum
    refine ⟨45, Lib.decDigits u, Lib.itoa_neg u hu, .inr ⟨rfl, ?_⟩, digs_word v1, hnum⟩
    cases hd : Lib.decDigits u with
    | nil => exact absurd hd v2
    | cons c l => rw [hd] at v1; simp only [digsB, List.all_cons, Bool.and_eq_true] at v1; exact v1.1
  · obtain ⟨u, rfl⟩ : ∃ u : Nat, n = (u : Int) := ⟨n.toNat, by omega⟩
    obtain ⟨v1, v2, v3, v4⟩ := val_dec u
    have hl := dig_len 17 u (by omega)
    have hnum := num_plain (Lib.decDigits u) v2 v1 hl (fun e => by rw [v3 e, Lib.decDigits_one (by omega)]; rfl)
    rw [v4] at hnum
    rw [Lib.itoa_nonneg]
    cases hd : Lib.decDigits u with
    | nil => exact absurd hd v2
    | cons c l =>
      rw [hd] at v1 hnum
      have v1' := v1
      simp only [digsB, List.all_cons, Bool.and_eq_true] at v1'
      exact ⟨c, l, rfl, .inl v1'.1, digs_word (by simp only [digsB]; exact v1'.2), hnum⟩
theorem fitN {n : Int} (h0 : -999999999999999999 ≤ n) (h1 : n ≤ 999999999999999999) {r : List Piece} (hr : fitsAll r) (ho : okH (bytesOf r)) : fitsAll (pN n :: r) := by
  obtain ⟨c, o, e, k1, k2, k3⟩ := num_itoa n h0 h1
  refine ⟨⟨?_, (by decide : ¬ (2 : Int) = 0), rfl⟩, hr⟩
  rw [e]; exact num_tok k1 k2 ho k3
theorem fitWd {c : UInt8} {o : Bs} (hc : wordB c = true) (hd : digB c = false) (hw : o.all wordB = true) {r : List Piece} (hr : fitsAll r) (ho : okH (bytesOf r)) : fitsAll (pW (c :: o) :: r) := ⟨fitW hc hd hw ho, hr⟩
theorem fitQt {s : Bs} (h : s.length ≤ 127) {r : List Piece} (hr : fitsAll r) : fitsAll (pQ s :: r) := ⟨fitQ h _, hr⟩
/-- One part's pieces fit, whatever stops behind them. -/
def FitsJ (f : Nat → List Piece) (j : Nat) : Prop := (∀ r, fitsAll r → okH (bytesOf r) → fitsAll (f j ++ r)) ∧ (bytesOf (f j)).head? ≠ none ∧ (bytesOf (f j)).head? ≠ some 61
theorem hd_app {a b : Bs} (h : a.head? ≠ none) : (a ++ b).head? = a.head? := by
  cases a with
  | nil => exact absurd rfl h
  | cons c a => rfl
theorem one_fits {ps : List PD} {p : PD} {f : Nat → List Piece} {k : Nat} (h : FitsJ f k) : (∀ r, fitsAll r → okH (bytesOf r) → fitsAll (onePc ps p f k ++ r)) ∧ (bytesOf (onePc ps p f k)).head? ≠ none ∧ (bytesOf (onePc ps p f k)).head? ≠ some 61 := by
  unfold onePc
  split
  · refine ⟨fun r hr ho => ?_, by simp [bytes_cons, Piece.bytes], by simp [bytes_cons, Piece.bytes]⟩
    have e : pM [40] :: (f k ++ [pM [41]]) ++ r = pM [40] :: (f k ++ (pM [41] :: r)) := by simp
    rw [e]
    exact fitM1 (by simp) _ (h.1 _ (fitM1 (by simp) _ hr) (by simp [okH, bytes_cons, Piece.bytes, stopH]; decide))
  · exact h
/-- What stands between two kids. -/
def SepOK (sep : List Piece) : Prop := ∀ r, fitsAll r → fitsAll (sep ++ r) ∧ okH (bytesOf (sep ++ r))
theorem sep_marks {c d : UInt8} (hc : (c = 38 ∧ d = 38) ∨ (c = 124 ∧ d = 124) ∨ (c = 61 ∧ d = 61) ∨ (c = 33 ∧ d = 61) ∨ (c = 60 ∧ d = 61) ∨ (c = 62 ∧ d = 61)) : SepOK [sp, pM [c, d], sp] := fun r hr =>
  ⟨fitSp ⟨fit2 hc _, fitSp hr⟩, by simp [okH, bytesOf, Piece.bytes, stopH]; decide⟩
theorem sep_mark {c : UInt8} (hc : c = 33 ∨ c = 60 ∨ c = 62) : SepOK [sp, pM [c], sp] := fun r hr =>
  ⟨fitSp ⟨fit3 hc (by simp [bytesOf, Piece.bytes]), fitSp hr⟩, by simp [okH, bytesOf, Piece.bytes, stopH]; decide⟩
theorem sep_word {c : UInt8} {o : Bs} (hc : wordB c = true) (hd : digB c = false) (hw : o.all wordB = true) : SepOK [sp, pW (c :: o), sp] := fun r hr =>
  ⟨fitSp (fitWd hc hd hw (fitSp hr) (by simp [okH, bytesOf, Piece.bytes, stopH]; decide)), by simp [okH, bytesOf, Piece.bytes, stopH]; decide⟩
theorem sep_comma : SepOK [pM [44], sp] := fun r hr => ⟨fitM1 (by simp) _ (fitSp hr), by simp [okH, bytesOf, Piece.bytes, stopH]; decide⟩
theorem flat_fits {ps : List PD} {p : PD} {f : Nat → List Piece} {sep : List Piece} (hs : SepOK sep) : ∀ (ks : List Nat), (∀ k ∈ ks, FitsJ f k) → ∀ r, fitsAll r → okH (bytesOf r) → fitsAll (ks.flatMap (fun k => sep ++ onePc ps p f k) ++ r) ∧ okH (bytesOf (ks.flatMap (fun k => sep ++ onePc ps p f k) ++ r))
  | [], _, r, hr, ho => ⟨hr, ho⟩
  | k :: ks, h, r, hr, ho => by
    have ih := flat_fits (ps := ps) (p := p) hs ks (fun k hk => h k (List.mem_cons_of_mem _ hk)) r hr ho
    have e : (k :: ks).flatMap (fun k => sep ++ onePc ps p f k) ++ r = sep ++ (onePc ps p f k ++ (ks.flatMap (fun k => sep ++ onePc ps p f k) ++ r)) := by simp
    rw [e]
    exact hs _ ((one_fits (h k List.mem_cons_self)).1 _ ih.1 ih.2)
theorem join_fits {ps : List PD} {p : PD} {f : Nat → List Piece} {sep : List Piece} (hs : SepOK sep) {ks : List Nat} (h : ∀ k ∈ ks, FitsJ f k) : ∀ r, fitsAll r → okH (bytesOf r) → fitsAll (joinPc ps p sep f ks ++ r) := by
  intro r hr ho
  cases ks with
  | nil => exact hr
  | cons k ks =>
    have e : joinPc ps p sep f (k :: ks) ++ r = onePc ps p f k ++ (ks.flatMap (fun k => sep ++ onePc ps p f k) ++ r) := by simp [joinPc]
    have ih := flat_fits (ps := ps) (p := p) hs ks (fun k hk => h k (List.mem_cons_of_mem _ hk)) r hr ho
    rw [e]
    exact (one_fits (h k List.mem_cons_self)).1 _ ih.1 ih.2
theorem join_one {ps : List PD} {p : PD} {f : Nat → List Piece} {sep : List Piece} {k : Nat} : joinPc ps p sep f [k] = onePc ps p f k := by simp [joinPc]
theorem join_head {ps : List PD} {p : PD} {f : Nat → List Piece} {sep : List Piece} {ks : List Nat} (h : ∀ k ∈ ks, FitsJ f k) (h0 : 0 < ks.length) : (bytesOf (joinPc ps p sep f ks)).head? ≠ none ∧ (bytesOf (joinPc ps p sep f ks)).head? ≠ some 61 := by
  cases ks with
  | nil => simp at h0
  | cons k ks =>
    have h1 := one_fits (ps := ps) (p := p) (h k List.mem_cons_self)
    simp only [joinPc, bytes_app]
    rw [hd_app h1.2.1]
    exact h1.2
theorem one_of_len {ks : List Nat} (h : ks.length = 1) : ∃ k, ks = [k] := by
  match ks, h with
  | [k], _ => exact ⟨k, rfl⟩
theorem side_word {n : Int} (h : 1 ≤ n ∧ n ≤ 3) : ∃ c o, sideW n = c :: o ∧ wordB c = true ∧ digB c = false ∧ o.all wordB = true ∧ c ≠ 61 := by
  have : n = 1 ∨ n = 2 ∨ n = 3 := by omega
  rcases this with rfl | rfl | rfl
  · exact ⟨112, [111, 100], rfl, by decide, by decide, by decide, by decide⟩
  · exact ⟨110, [111, 100, 101], rfl, by decide, by decide, by decide, by decide⟩
  · exact ⟨105, [116], rfl, by decide, by decide, by decide, by decide⟩
theorem sep_cmp {n : Int} (h : 1 ≤ n ∧ n ≤ 6) : SepOK [sp, pM (cmpW n), sp] := by
  have : n = 1 ∨ n = 2 ∨ n = 3 ∨ n = 4 ∨ n = 5 ∨ n = 6 := by omega
  rcases this with rfl | rfl | rfl | rfl | rfl | rfl
  · exact sep_marks (by simp)
  · exact sep_marks (by simp)
  · exact sep_mark (by simp)
  · exact sep_marks (by simp)
  · exact sep_mark (by simp)
  · exact sep_marks (by simp)
theorem okM (c : UInt8) (r : List Piece) (h : wordB c = false) : okH (bytesOf (pM [c] :: r)) := by simp [okH, bytes_cons, Piece.bytes, stopH, h]

end Go.Proofs.YtghhnnbbjlipcaaGreatDoor.X
set_option linter.unusedVariables false
set_option linter.unusedSimpArgs false
namespace Go.Proofs.YtghhnnbbjlipcaaGreatDoor.X
theorem sel_fits {ps : List PD} {p : PD} {f : Nat → List Piece} {c : UInt8} {o : Bs} (hc : wordB c = true) (hd : digB c = false) (hw : o.all wordB = true) (h61 : c ≠ 61) (ht : p.text.length ≤ 127) (h1 : p.kids.length = 1) (hk : ∀ k ∈ p.kids, FitsJ f k) :
    (∀ r, fitsAll r → okH (bytesOf r) → fitsAll (selPc ps p f (c :: o) ++ r)) ∧ (bytesOf (selPc ps p f (c :: o))).head? ≠ none ∧ (bytesOf (selPc ps p f (c :: o))).head? ≠ some 61 := by
  refine ⟨fun r hr ho => ?_, by simp [selPc, bytes_cons, Piece.bytes], by simp [selPc, bytes_cons, Piece.bytes, h61]⟩
  have e : selPc ps p f (c :: o) ++ r = pW (c :: o) :: pM [40] :: pQ p.text :: pM [44] :: sp :: (joinPc ps p [] f p.kids ++ (pM [41] :: r)) := by simp [selPc]
  rw [e]
  obtain ⟨k, hk1⟩ := one_of_len h1
  rw [hk1, join_one]
  have := (one_fits (ps := ps) (p := p) (hk k (by rw [hk1]; exact List.mem_cons_self))).1 (pM [41] :: r) (fitM1 (by simp) _ hr) (okM _ _ (by decide))
  exact fitWd hc hd hw (fitM1 (by simp) _ (fitQt ht (fitM1 (by simp) _ (fitSp this)))) (okM _ _ (by decide))
theorem part_fits {ps : List PD} {p : PD} {f : Nat → List Piece} (F : Fit ps p) (hk : ∀ k ∈ p.kids, FitsJ f k) :
    (∀ r, fitsAll r → okH (bytesOf r) → fitsAll (partPc ps p f ++ r)) ∧ (bytesOf (partPc ps p f)).head? ≠ none ∧ (bytesOf (partPc ps p f)).head? ≠ some 61 := by
  obtain ⟨k0, k1⟩ := F.kind
  have hc : p.kind = 1 ∨ p.kind = 2 ∨ p.kind = 3 ∨ p.kind = 4 ∨ p.kind = 5 ∨ p.kind = 6 ∨ p.kind = 7 ∨ p.kind = 8 ∨ p.kind = 9 ∨ p.kind = 10 ∨ p.kind = 11 ∨ p.kind = 12 ∨ p.kind = 13 ∨ p.kind = 14 ∨ p.kind = 15 ∨ p.kind = 16 ∨ p.kind = 17 ∨ p.kind = 18 ∨ p.kind = 19 ∨ p.kind = 20 := by omega
  rcases hc with h | h | h | h | h | h | h | h | h | h | h | h | h | h | h | h | h | h | h | h
  · have e : partPc ps p f = [pW [116, 114, 117, 101]] := by simp [partPc, h]
    rw [e]
    exact ⟨fun r hr ho => fitWd (by decide) (by decide) (by decide) hr ho, by simp [bytesOf, Piece.bytes], by simp [bytesOf, Piece.bytes]⟩
  · have e : partPc ps p f = [pW [102, 97, 108, 115, 101]] := by simp [partPc, h]
    rw [e]
    exact ⟨fun r hr ho => fitWd (by decide) (by decide) (by decide) hr ho, by simp [bytesOf, Piece.bytes], by simp [bytesOf, Piece.bytes]⟩
  · have e : partPc ps p f = [pM [33]] ++ joinPc ps p [] f p.kids := by simp [partPc, h]
    obtain ⟨k, hk1⟩ := one_of_len (F.one (by simp [h]))
    rw [e, hk1, join_one]
    have h1 := one_fits (ps := ps) (p := p) (hk k (by rw [hk1]; exact List.mem_cons_self))
    refine ⟨fun r hr ho => ⟨fit3 (by simp) ?_, h1.1 r hr ho⟩, by simp [bytes_cons, Piece.bytes], by simp [bytes_cons, Piece.bytes]⟩
    show (bytesOf (onePc ps p f k ++ r)).head? ≠ some 61
    rw [bytes_app, hd_app h1.2.1]
    exact h1.2.2
  · have e : partPc ps p f = joinPc ps p [sp, pM [38, 38], sp] f p.kids := by simp [partPc, h]
    rw [e]
    exact ⟨join_fits (sep_marks (by simp)) hk, join_head hk (by have := F.more (by simp [h]); omega)⟩
  · have e : partPc ps p f = joinPc ps p [sp, pM [124, 124], sp] f p.kids := by simp [partPc, h]
    rw [e]
    exact ⟨join_fits (sep_marks (by simp)) hk, join_head hk (by have := F.more (by simp [h]); omega)⟩
  · have e : partPc ps p f = joinPc ps p [sp, pM (cmpW p.num), sp] f p.kids := by simp [partPc, h]
    rw [e]
    exact ⟨join_fits (sep_cmp (F.cmp h)) hk, join_head hk (by have := F.two (by simp [h]); omega)⟩
  · rcases F.isin h with hn | hn
    · have e : partPc ps p f = joinPc ps p [sp, pW [105, 110], sp] f p.kids := by simp [partPc, h, hn]
      rw [e]
      exact ⟨join_fits (sep_word (by decide) (by decide) (by decide)) hk, join_head hk (by have := F.two (by simp [h]); omega)⟩
    · have e : partPc ps p f = joinPc ps p [sp, pW [110, 111, 116, 105, 110], sp] f p.kids := by simp [partPc, h, hn]
      rw [e]
      exact ⟨join_fits (sep_word (by decide) (by decide) (by decide)) hk, join_head hk (by have := F.two (by simp [h]); omega)⟩
  · have e : partPc ps p f = selPc ps p f [110, 101, 97, 114] := by simp [partPc, h]
    rw [e]; exact sel_fits (by decide) (by decide) (by decide) (by decide) F.text (F.one (by simp [h])) hk
  · have e : partPc ps p f = selPc ps p f [97, 112, 97, 114, 116] := by simp [partPc, h]
    rw [e]; exact sel_fits (by decide) (by decide) (by decide) (by decide) F.text (F.one (by simp [h])) hk
  · have e : partPc ps p f = [pW [116, 111, 108, 101, 114, 97, 116, 101, 100], pM [40], pQ p.text, pM [41]] := by simp [partPc, termPc, h]
    rw [e]
    exact ⟨fun r hr ho => fitWd (by decide) (by decide) (by decide) (fitM1 (by simp) _ (fitQt F.text (fitM1 (by simp) _ hr))) (okM _ _ (by decide)), by simp [bytesOf, Piece.bytes], by simp [bytesOf, Piece.bytes]⟩
  · have e : partPc ps p f = [pQ p.text] := by simp [partPc, termPc, h]
    rw [e]
    exact ⟨fun r hr ho => fitQt F.text hr, by simp [bytesOf, Piece.bytes, quoteL], by simp [bytesOf, Piece.bytes, quoteL]⟩
  · have e : partPc ps p f = [pN p.num] := by simp [partPc, termPc, h]
    rw [e]
    obtain ⟨n0, n1⟩ := F.num h
    obtain ⟨c, o, e2, g1, g2, g3⟩ := num_itoa p.num n0 n1
    refine ⟨fun r hr ho => fitN n0 n1 hr ho, by simp [bytesOf, Piece.bytes, e2], ?_⟩
    simp only [bytesOf, Piece.bytes, e2, List.flatMap_cons, List.flatMap_nil, List.append_nil, List.head?_cons, ne_eq, Option.some.injEq]
    rcases g1 with g1 | g1
    · rintro rfl; exact absurd g1 (by decide)
    · rw [g1.1]; decide
  · have e : partPc ps p f = [pM [123]] ++ joinPc ps p [pM [44], sp] f p.kids ++ [pM [125]] := by simp [partPc, termPc, h]
    rw [e]
    refine ⟨fun r hr ho => ?_, by simp [bytes_cons, Piece.bytes], by simp [bytes_cons, Piece.bytes]⟩
    have e2 : [pM [123]] ++ joinPc ps p [pM [44], sp] f p.kids ++ [pM [125]] ++ r = pM [123] :: (joinPc ps p [pM [44], sp] f p.kids ++ (pM [125] :: r)) := by simp
    rw [e2]
    exact fitM1 (by simp) _ (join_fits sep_comma hk _ (fitM1 (by simp) _ hr) (okM _ _ (by decide)))
  · have e : partPc ps p f = [pW (sideW p.num), pM [91], pQ p.text, pM [93]] := by simp [partPc, termPc, h]
    obtain ⟨c, o, e2, s1, s2, s3, s4⟩ := side_word (F.side (by omega))
    rw [e, e2]
    exact ⟨fun r hr ho => fitWd s1 s2 s3 (fitM1 (by simp) _ (fitQt F.text (fitM1 (by simp) _ hr))) (okM _ _ (by decide)), by simp [bytesOf, Piece.bytes], by simp [bytesOf, Piece.bytes, s4]⟩
  · have e : partPc ps p f = [pW (sideW p.num), pM [46], pW [110, 97, 109, 101]] := by simp [partPc, termPc, h]
    obtain ⟨c, o, e2, s1, s2, s3, s4⟩ := side_word (F.side (by omega))
    rw [e, e2]
    exact ⟨fun r hr ho => fitWd s1 s2 s3 (fitM1 (by simp) _ (fitWd (by decide) (by decide) (by decide) hr ho)) (okM _ _ (by decide)), by simp [bytesOf, Piece.bytes], by simp [bytesOf, Piece.bytes, s4]⟩
  · have e : partPc ps p f = [pW (sideW p.num), pM [46], pW [107, 101, 121, 115]] := by simp [partPc, termPc, h]
    obtain ⟨c, o, e2, s1, s2, s3, s4⟩ := side_word (F.side (by omega))
    rw [e, e2]
    exact ⟨fun r hr ho => fitWd s1 s2 s3 (fitM1 (by simp) _ (fitWd (by decide) (by decide) (by decide) hr ho)) (okM _ _ (by decide)), by simp [bytesOf, Piece.bytes], by simp [bytesOf, Piece.bytes, s4]⟩
  · have e : partPc ps p f = [pW (sideW p.num), pM [46], pW [116, 97, 105, 110, 116, 115]] := by simp [partPc, termPc, h]
    obtain ⟨c, o, e2, s1, s2, s3, s4⟩ := side_word (F.side (by omega))
    rw [e, e2]
    exact ⟨fun r hr ho => fitWd s1 s2 s3 (fitM1 (by simp) _ (fitWd (by decide) (by decide) (by decide) hr ho)) (okM _ _ (by decide)), by simp [bytesOf, Piece.bytes], by simp [bytesOf, Piece.bytes, s4]⟩
  · have e : partPc ps p f = [pW (sideW p.num), pM [46], pW [99, 97, 112], pM [40], pQ p.text, pM [41]] := by simp [partPc, termPc, h]
    obtain ⟨c, o, e2, s1, s2, s3, s4⟩ := side_word (F.side (by omega))
    rw [e, e2]
    exact ⟨fun r hr ho => fitWd s1 s2 s3 (fitM1 (by simp) _ (fitWd (by decide) (by decide) (by decide) (fitM1 (by simp) _ (fitQt F.text (fitM1 (by simp) _ hr))) (okM _ _ (by decide)))) (okM _ _ (by decide)), by simp [bytesOf, Piece.bytes], by simp [bytesOf, Piece.bytes, s4]⟩
  · have e : partPc ps p f = [pW [105, 110, 116], pM [40]] ++ joinPc ps p [] f p.kids ++ [pM [41]] := by simp [partPc, termPc, h]
    obtain ⟨k, hk1⟩ := one_of_len (F.one (by simp [h]))
    rw [e, hk1, join_one]
    refine ⟨fun r hr ho => ?_, by simp [bytes_cons, Piece.bytes], by simp [bytes_cons, Piece.bytes]⟩
    have e2 : [pW [105, 110, 116], pM [40]] ++ onePc ps p f k ++ [pM [41]] ++ r = pW [105, 110, 116] :: pM [40] :: (onePc ps p f k ++ (pM [41] :: r)) := by simp
    rw [e2]
    have h1 := (one_fits (ps := ps) (p := p) (hk k (by rw [hk1]; exact List.mem_cons_self))).1 (pM [41] :: r) (fitM1 (by simp) _ hr) (okM _ _ (by decide))
    exact fitWd (by decide) (by decide) (by decide) (fitM1 (by simp) _ h1) (okM _ _ (by decide))
  · have e : partPc ps p f = selPc ps p f [99, 111, 117, 110, 116] := by simp [partPc, h]
    rw [e]; exact sel_fits (by decide) (by decide) (by decide) (by decide) F.text (F.one (by simp [h])) hk
theorem sub_fits {ps : List PD} {f : Nat → List Piece} (hf : TreeF ps f) {a j : Nat} (h : Sub ps a j) : FitsJ f j := by
  induction h with
  | mk a r segs h1 h2 h3 h4 ih =>
    unfold FitsJ
    rw [hf.eq r h1]
    exact part_fits (hf.fit r h1) (fun k hk => by
      rw [h2, List.mem_map] at hk
      obtain ⟨s, hs, rfl⟩ := hk
      exact ih s hs)
/-- The tokens of a tree's text. -/
theorem tree_scan {ps : List PD} {f : Nat → List Piece} (hf : TreeF ps f) {a j : Nat} (h : Sub ps a j) (hl : (bytesOf (f j)).length ≤ 4096) : ∃ us, scanL (bytesOf (f j)) = (us, none) ∧ us.map cont = (toksOf (f j)).map cont ++ [(0, [], 0)] := by
  have h1 := (sub_fits hf h).1 [] trivial rfl
  rw [List.append_nil] at h1
  exact pieces_scan h1 hl

end Go.Proofs.YtghhnnbbjlipcaaGreatDoor.X
set_option linter.unusedVariables false
set_option linter.unusedSimpArgs false
namespace Go.Proofs.YtghhnnbbjlipcaaGreatDoor.X
def ctOf (l : List Piece) : List Ct := (toksOf l).map cont
theorem ct_app (a b : List Piece) : ctOf (a ++ b) = ctOf a ++ ctOf b := by simp [ctOf, toksOf]
theorem ct_nil : ctOf [] = [] := rfl
theorem ct_M (m : Bs) (r : List Piece) : ctOf (pM m :: r) = (4, m, 0) :: ctOf r := by simp [ctOf, toksOf, Piece.toks, cont]
theorem ct_W (m : Bs) (r : List Piece) : ctOf (pW m :: r) = (3, m, 0) :: ctOf r := by simp [ctOf, toksOf, Piece.toks, cont]
theorem ct_Q (s : Bs) (r : List Piece) : ctOf (pQ s :: r) = (1, s, 0) :: ctOf r := by simp [ctOf, toksOf, Piece.toks, cont]
theorem ct_N (n : Int) (r : List Piece) : ctOf (pN n :: r) = (2, [], n) :: ctOf r := by simp [ctOf, toksOf, Piece.toks, cont]
theorem ct_sp (r : List Piece) : ctOf (sp :: r) = ctOf r := by simp [ctOf, toksOf, Piece.toks]
/-- From token p on these contents stand. -/
def AtU (us : List Tk) (p : Nat) (L : List Ct) : Prop := (us.map cont).drop p = L
theorem AtU.head {us : List Tk} {p : Nat} {c : Ct} {L : List Ct} (h : AtU us p (c :: L)) : cont (us.getD p endT) = c := by
  unfold AtU at h
  rw [cont_getD, List.getD_eq_getElem?_getD]
  have : ((us.map cont).drop p)[0]? = some c := by rw [h]; rfl
  rw [List.getElem?_drop, Nat.add_zero] at this
  rw [this]; rfl
theorem AtU.tail {us : List Tk} {p : Nat} {c : Ct} {L : List Ct} (h : AtU us p (c :: L)) : AtU us (p + 1) L := by
  unfold AtU at h ⊢
  have e : (us.map cont).drop (p + 1) = ((us.map cont).drop p).drop 1 := by rw [List.drop_drop]
  rw [e, h]; rfl
theorem AtU.skip {us : List Tk} {p : Nat} {A L : List Ct} (h : AtU us p (A ++ L)) : AtU us (p + A.length) L := by
  unfold AtU at h ⊢
  rw [← List.drop_drop, h, List.drop_left]
/-- The next token is not this mark. -/
def nx (m : Bs) (Z : List Ct) : Prop := ∀ c, Z.head? = some c → (c.1 == 4 && c.2.1 == m) = false
theorem AtU.not {us : List Tk} {S : PS} {Z : List Ct} {m : Bs} (h : AtU us S.pos Z) (hz : nx m Z) : isT us S 4 m = false := by
  cases Z with
  | nil =>
    unfold AtU at h
    have : (us.map cont).length ≤ S.pos := List.drop_eq_nil_iff.1 h
    rw [List.length_map] at this
    unfold isT pk
    rw [List.getD_eq_getElem?_getD, List.getElem?_eq_none this]
    rfl
  | cons c Z => rw [isT_c h.head]; exact hz c rfl
theorem AtU.is {us : List Tk} {S : PS} {L : List Ct} {c : Ct} (h : AtU us S.pos (c :: L)) (k : Int) (m : Bs) : isT us S k m = (c.1 == k && c.2.1 == m) := isT_c h.head k m
theorem nx_cons {m : Bs} {c : Ct} {Z : List Ct} (h : (c.1 == 4 && c.2.1 == m) = false) : nx m (c :: Z) := fun d hd => by
  have : c = d := by simpa using hd
  subst this; exact h
/-- It has come to the part j. -/
def Gets (ps : List PD) (x : PR Nat) (q c j : Nat) : Prop := ∃ offs, x = .ok (j, ⟨q, c, ps.take (j + 1), offs⟩)
theorem take_at {ps : List PD} {r : Nat} (h : r < ps.length) : ps.take (r + 1) = ps.take r ++ [at_ ps r] := by
  rw [List.take_succ_eq_append_getElem h, at_, List.getD_eq_getElem?_getD, List.getElem?_eq_getElem h]; rfl
theorem put_gets {ps : List PD} {q c r : Nat} {offs : List Nat} {a : Nat} {p : PD} (h : r < ps.length) (hp : p = at_ ps r) : Gets ps (putP a p ⟨q, c, ps.take r, offs⟩) q c r := by
  subst hp
  refine ⟨offs ++ [a], ?_⟩
  unfold putP putS
  simp only [take_at h, List.length_take]
  rw [Nat.min_eq_left (by omega)]
def lowL (us : List Tk) : Nat → Lv
  | 0 => noLv
  | d + 1 => lv us d
theorem lv_unit (us : List Tk) (d : Nat) (S : PS) : (lv us d).unit S = unitP us (lowL us d) S := by cases d <;> rfl
theorem lv_term (us : List Tk) (d : Nat) (S : PS) : (lv us d).term S = termP us (lowL us d) S := by cases d <;> rfl
theorem lv_expr (us : List Tk) (d : Nat) (S : PS) : (lv us d).expr S = exprP us (lowL us d) S := by cases d <;> rfl
/-- Further things of a list. -/
theorem loop_run {us : List Tk} {ps : List PD} {m : Bs} {one : PS → PR Nat} {c : Nat} {g : Nat → List Ct} {NX : List Ct → Prop} (hnx : ∀ L, NX ((4, m, 0) :: L)) :
    ∀ (rest : List (Nat × Nat)) (n q a b : Nat) (Z : List Ct) (offs kids : List Nat), rest.length ≤ n → Cvr a rest b → NX Z → nx m Z → AtU us q (rest.flatMap (fun s => (4, m, 0) :: g s.2) ++ Z) →
      (∀ s ∈ rest, ∀ q Z offs, NX Z → AtU us q (g s.2 ++ Z) → Gets ps (one ⟨q, c, ps.take s.1, offs⟩) (q + (g s.2).length) c s.2) →
      ∃ offs', listLoop us m one n kids ⟨q, c, ps.take a, offs⟩ = .ok (kids ++ rest.map Prod.snd, ⟨q + (rest.flatMap (fun s => (4, m, 0) :: g s.2)).length, c, ps.take b, offs'⟩)
  | [], n, q, a, b, Z, offs, kids, hn, hc, hz, hm, hat, h => by
    obtain rfl : a = b := hc
    refine ⟨offs, ?_⟩
    cases n with
    | zero => simp [listLoop]
    | succ n =>
      have : isT us ⟨q, c, ps.take a, offs⟩ 4 m = false := AtU.not (S := ⟨q, c, ps.take a, offs⟩) hat hm
      rw [listLoop, if_neg (by rw [this]; decide)]
      simp
  | s :: rest, n, q, a, b, Z, offs, kids, hn, hc, hz, hm, hat, h => by
    obtain ⟨n, rfl⟩ : ∃ k, n = k + 1 := ⟨n - 1, by simp at hn; omega⟩
    obtain ⟨h1, h2⟩ := hc
    have hat' : AtU us q ((4, m, 0) :: (g s.2 ++ (rest.flatMap (fun s => (4, m, 0) :: g s.2) ++ Z))) := by simpa using hat
    have hi : isT us ⟨q, c, ps.take a, offs⟩ 4 m = true := by rw [AtU.is (S := ⟨q, c, ps.take a, offs⟩) hat']; simp
    have hz2 : NX (rest.flatMap (fun s => (4, m, 0) :: g s.2) ++ Z) := by
      cases rest with
      | nil => exact hz
      | cons t rest => exact hnx _
    obtain ⟨o1, e1⟩ := h s List.mem_cons_self (q + 1) _ offs hz2 hat'.tail
    obtain ⟨o2, e2⟩ := loop_run hnx rest n (q + 1 + (g s.2).length) (s.2 + 1) b Z o1 (kids ++ [s.2]) (by simp at hn; omega) h2 hz hm hat'.tail.skip (fun t ht => h t (List.mem_cons_of_mem _ ht))
    refine ⟨o2, ?_⟩
    rw [listLoop, if_pos hi]
    have eon : on ⟨q, c, ps.take a, offs⟩ = ⟨q + 1, c, ps.take s.1, offs⟩ := by rw [h1]; rfl
    rw [eon, e1]
    simp only
    rw [e2]
    simp [Nat.add_assoc, Nat.add_comm, Nat.add_left_comm]
/-- A list of two things or more. -/
theorem list_run {us : List Tk} {ps : List PD} {m : Bs} {kind : Int} {one : PS → PR Nat} {c r : Nat} {g : Nat → List Ct} {NX : List Ct → Prop} (hnx : ∀ L, NX ((4, m, 0) :: L)) {s : Nat × Nat} {rest : List (Nat × Nat)} {q a : Nat} {Z : List Ct} {offs : List Nat}
    (hr : r < ps.length) (hlen : rest.length ≤ 5000) (h2 : 0 < rest.length) (hc : Cvr a (s :: rest) r) (hz : NX Z) (hm : nx m Z) (hat : AtU us q (g s.2 ++ (rest.flatMap (fun s => (4, m, 0) :: g s.2) ++ Z)))
    (hp : at_ ps r = ⟨kind, [], 0, s.2 :: rest.map Prod.snd⟩) (h : ∀ t ∈ s :: rest, ∀ q Z offs, NX Z → AtU us q (g t.2 ++ Z) → Gets ps (one ⟨q, c, ps.take t.1, offs⟩) (q + (g t.2).length) c t.2) :
    Gets ps (listP us m kind one ⟨q, c, ps.take a, offs⟩) (q + (g s.2).length + (rest.flatMap (fun s => (4, m, 0) :: g s.2)).length) c r := by
  obtain ⟨h1, h3⟩ := hc
  have hz2 : NX (rest.flatMap (fun s => (4, m, 0) :: g s.2) ++ Z) := by
    cases rest with
    | nil => exact hz
    | cons t rest => exact hnx _
  obtain ⟨o1, e1⟩ := h s List.mem_cons_self q _ offs hz2 hat
  obtain ⟨o2, e2⟩ := loop_run (ps := ps) (one := one) (c := c) hnx rest 5000 (q + (g s.2).length) (s.2 + 1) r Z o1 [s.2] hlen h3 hz hm hat.skip (fun t ht => h t (List.mem_cons_of_mem _ ht))
  unfold listP
  rw [← h1, e1]
  simp only
  rw [e2]
  simp only [listEnd, List.singleton_append]
  rw [if_neg (by simp only [List.length_cons, List.length_map]; omega)]
  exact put_gets hr hp.symm
/-- A leaf of a set. -/
def leafCt (p : PD) : Ct := if p.kind = 11 then (1, p.text, 0) else (2, [], p.num)
theorem set_run {us : List Tk} {ps : List PD} {c : Nat} : ∀ (rest : List (Nat × Nat)) (n q a b : Nat) (Z : List Ct) (offs kids : List Nat), rest.length < n → kids.length + rest.length ≤ 64 → 0 < kids.length → Cvr a rest b →
      AtU us q (rest.flatMap (fun s => [(4, [44], 0), leafCt (at_ ps s.2)]) ++ ((4, [125], 0) :: Z)) →
      (∀ s ∈ rest, s.1 = s.2 ∧ s.2 < ps.length ∧ (at_ ps s.2 = ⟨11, (at_ ps s.2).text, 0, []⟩ ∨ at_ ps s.2 = ⟨12, [], (at_ ps s.2).num, []⟩)) →
      ∃ offs', setLoop us n kids ⟨q, c, ps.take a, offs⟩ = .ok (kids ++ rest.map Prod.snd, ⟨q + 2 * rest.length, c, ps.take b, offs'⟩)
  | [], n, q, a, b, Z, offs, kids, hn, h64, h0, hc, hat, h => by
    obtain rfl : a = b := hc
    obtain ⟨n, rfl⟩ : ∃ k, n = k + 1 := ⟨n - 1, by simp at hn; omega⟩
    have hat' : AtU us q ((4, [125], 0) :: Z) := hat
    refine ⟨offs, ?_⟩
    rw [setLoop, if_pos (by rw [AtU.is (S := ⟨q, c, ps.take a, offs⟩) hat']; simp)]
    simp
  | s :: rest, n, q, a, b, Z, offs, kids, hn, h64, h0, hc, hat, h => by
    obtain ⟨n, rfl⟩ : ∃ k, n = k + 1 := ⟨n - 1, by simp at hn; omega⟩
    obtain ⟨h1, h2⟩ := hc
    have hat' : AtU us q ((4, [44], 0) :: leafCt (at_ ps s.2) :: (rest.flatMap (fun s => [(4, [44], 0), leafCt (at_ ps s.2)]) ++ ((4, [125], 0) :: Z))) := by simpa using hat
    obtain ⟨k1, k2, k3⟩ := h s List.mem_cons_self
    have eat : a = s.2 := by omega
    subst eat
    have hm : markP us [44] ⟨q, c, ps.take s.2, offs⟩ = .ok ⟨q + 1, c, ps.take s.2, offs⟩ := mark_at (S := ⟨q, c, ps.take s.2, offs⟩) hat'.head
    obtain ⟨j1, j2, j3⟩ := kind_c (S := ⟨q + 1, c, ps.take s.2, offs⟩) hat'.tail.head
    simp only [List.length_cons] at h64
    obtain ⟨o2, e2⟩ := set_run rest n (q + 2) (s.2 + 1) b Z (offs ++ [q + 1]) (kids ++ [s.2]) (by simp at hn; omega) (by simp; omega) (by simp) h2 hat'.tail.tail (fun t ht => h t (List.mem_cons_of_mem _ ht))
    have hlen : (ps.take s.2).length = s.2 := by rw [List.length_take]; omega
    refine ⟨o2, ?_⟩
    rw [setLoop, if_neg (by rw [AtU.is (S := ⟨q, c, ps.take s.2, offs⟩) hat']; simp), if_pos h0, hm]
    simp only [thenS]
    rcases k3 with k3 | k3
    · have hl : leafCt (at_ ps s.2) = (1, (at_ ps s.2).text, 0) := by unfold leafCt; rw [if_pos (by rw [k3])]
      rw [hl] at j1 j2 j3
      rw [if_neg (by rw [j1]; simp), if_neg (by omega), if_pos j1, j2]
      have e : putS (q + 1) ⟨11, (at_ ps s.2).text, 0, []⟩ (on ⟨q + 1, c, ps.take s.2, offs⟩) = ⟨q + 2, c, ps.take (s.2 + 1), offs ++ [q + 1]⟩ := by
        rw [take_at k2, ← k3]; rfl
      simp only at e ⊢
      rw [e, hlen, e2]
      simp only [List.map_cons, List.length_cons, List.append_assoc, List.singleton_append]
      congr 3; omega
    · have hl : leafCt (at_ ps s.2) = (2, [], (at_ ps s.2).num) := by unfold leafCt; rw [if_neg (by rw [k3]; simp)]
      rw [hl] at j1 j2 j3
      rw [if_neg (by rw [j1]; simp), if_neg (by omega), if_neg (by rw [j1]; simp), j3]
      have e : putS (q + 1) ⟨12, [], (at_ ps s.2).num, []⟩ (on ⟨q + 1, c, ps.take s.2, offs⟩) = ⟨q + 2, c, ps.take (s.2 + 1), offs ++ [q + 1]⟩ := by
        rw [take_at k2, ← k3]; rfl
      simp only at e ⊢
      rw [e, hlen, e2]
      simp only [List.map_cons, List.length_cons, List.append_assoc, List.singleton_append]
      congr 3; omega

end Go.Proofs.YtghhnnbbjlipcaaGreatDoor.X
set_option linter.unusedVariables false
set_option linter.unusedSimpArgs false
namespace Go.Proofs.YtghhnnbbjlipcaaGreatDoor.X
def rnd (k : Int) : Nat := if k = 3 ∨ k = 8 ∨ k = 9 ∨ k = 19 ∨ k = 20 then 1 else 0
/-- A tree, the pieces of its text, how much stands round each part. -/
structure Ctx (ps : List PD) (f : Nat → List Piece) (ν : Nat → Nat) : Prop where
  hf : TreeF ps f
  short : ps.length ≤ 1000
  nu : ∀ j, j < ps.length → ∀ k ∈ (at_ ps j).kids, ν k = ν j + rnd (at_ ps j).kind + (if brB (at_ ps j).kind (at_ ps k).kind then 1 else 0)
  le : ∀ j, j < ps.length → ν j ≤ 32
/-- What the descent comes to at a part. -/
structure PJ (us : List Tk) (ps : List PD) (f : Nat → List Piece) (ν : Nat → Nat) (a j : Nat) : Prop where
  term : termK (at_ ps j).kind → ∀ q Z offs d, ν j + d = 32 → AtU us q (ctOf (f j) ++ Z) → Gets ps (termP us (lowL us d) ⟨q, ν j, ps.take a, offs⟩) (q + (ctOf (f j)).length) (ν j) j
  unit : condK (at_ ps j).kind → (at_ ps j).kind ≠ 4 → (at_ ps j).kind ≠ 5 → ∀ q Z offs d, ν j + d = 32 → AtU us q (ctOf (f j) ++ Z) → Gets ps (unitP us (lowL us d) ⟨q, ν j, ps.take a, offs⟩) (q + (ctOf (f j)).length) (ν j) j
  conj : (at_ ps j).kind = 4 → ∀ q Z offs d, ν j + d = 32 → nx [38, 38] Z → AtU us q (ctOf (f j) ++ Z) → Gets ps (conjP us (lowL us d) ⟨q, ν j, ps.take a, offs⟩) (q + (ctOf (f j)).length) (ν j) j
  expr : (at_ ps j).kind = 5 → ∀ q Z offs d, ν j + d = 32 → nx [38, 38] Z → nx [124, 124] Z → AtU us q (ctOf (f j) ++ Z) → Gets ps (exprP us (lowL us d) ⟨q, ν j, ps.take a, offs⟩) (q + (ctOf (f j)).length) (ν j) j
theorem gets_list {us : List Tk} {ps : List PD} {m : Bs} {kind : Int} {one : PS → PR Nat} {S : PS} {q c j : Nat} {Z : List Ct} (h : Gets ps (one S) q c j) (hat : AtU us q Z) (hz : nx m Z) : Gets ps (listP us m kind one S) q c j := by
  obtain ⟨o, e⟩ := h
  exact ⟨o, list_one e (AtU.not (S := ⟨q, c, ps.take (j + 1), o⟩) hat hz)⟩
theorem PJ.conj' {us : List Tk} {ps : List PD} {f : Nat → List Piece} {ν : Nat → Nat} {a j : Nat} (h : PJ us ps f ν a j) (hc : condK (at_ ps j).kind) (h5 : (at_ ps j).kind ≠ 5) {q : Nat} {Z : List Ct} {offs : List Nat} {d : Nat} (hd : ν j + d = 32) (hz : nx [38, 38] Z) (hat : AtU us q (ctOf (f j) ++ Z)) :
    Gets ps (conjP us (lowL us d) ⟨q, ν j, ps.take a, offs⟩) (q + (ctOf (f j)).length) (ν j) j := by
  by_cases h4 : (at_ ps j).kind = 4
  · exact h.conj h4 q Z offs d hd hz hat
  · exact gets_list (h.unit hc h4 h5 q Z offs d hd hat) hat.skip hz
theorem PJ.expr' {us : List Tk} {ps : List PD} {f : Nat → List Piece} {ν : Nat → Nat} {a j : Nat} (h : PJ us ps f ν a j) (hc : condK (at_ ps j).kind) {q : Nat} {Z : List Ct} {offs : List Nat} {d : Nat} (hd : ν j + d = 32) (hz : nx [38, 38] Z) (hz2 : nx [124, 124] Z) (hat : AtU us q (ctOf (f j) ++ Z)) :
    Gets ps (exprP us (lowL us d) ⟨q, ν j, ps.take a, offs⟩) (q + (ctOf (f j)).length) (ν j) j := by
  by_cases h5 : (at_ ps j).kind = 5
  · exact h.expr h5 q Z offs d hd hz hz2 hat
  · exact gets_list (h.conj' hc h5 hd hz hat) hat.skip hz2
/-- A part in parentheses. -/
theorem bracket {us : List Tk} {ps : List PD} {f : Nat → List Piece} {ν : Nat → Nat} {a k e : Nat} (h : PJ us ps f ν a k) (hc : condK (at_ ps k).kind) (hv : ν k = e + 1) (hle : ν k ≤ 32) {q : Nat} {Z : List Ct} {offs : List Nat} {d : Nat} (hd : e + d = 32) (hat : AtU us q ((4, [40], 0) :: (ctOf (f k) ++ ((4, [41], 0) :: Z)))) :
    Gets ps (unitP us (lowL us d) ⟨q, e, ps.take a, offs⟩) (q + ((ctOf (f k)).length + 2)) e k := by
  obtain ⟨d, rfl⟩ : ∃ d', d = d' + 1 := ⟨d - 1, by omega⟩
  obtain ⟨o, ho⟩ := h.expr' hc (q := q + 1) (offs := offs) (d := d) (by omega) (nx_cons (by decide)) (nx_cons (by decide)) hat.tail
  unfold unitP
  rw [AtU.is (S := ⟨q, e, ps.take a, offs⟩) hat, AtU.is (S := ⟨q, e, ps.take a, offs⟩) hat, if_neg (by decide), if_pos (by decide), open_at (S := ⟨q, e, ps.take a, offs⟩) hat.head (by simp only; omega)]
  simp only [thenS]
  rw [hv] at ho
  have e1 : (lowL us (d + 1)).expr ⟨q + 1, e + 1, ps.take a, offs⟩ = exprP us (lowL us d) ⟨q + 1, e + 1, ps.take a, offs⟩ := lv_expr us d _
  rw [e1, ho]
  simp only [bindS]
  rw [shut_at (S := ⟨q + 1 + (ctOf (f k)).length, e + 1, ps.take (k + 1), o⟩) hat.tail.skip.head]
  refine ⟨o, ?_⟩
  simp only [Nat.add_sub_cancel]
  congr 3; omega
theorem one_br {ps : List PD} {p : PD} {f : Nat → List Piece} {k : Nat} (h : brB p.kind (at_ ps k).kind = true) : ctOf (onePc ps p f k) = (4, [40], 0) :: (ctOf (f k) ++ [(4, [41], 0)]) := by
  unfold onePc; rw [if_pos h, ct_M, ct_app, ct_M]; rfl
theorem one_no {ps : List PD} {p : PD} {f : Nat → List Piece} {k : Nat} (h : brB p.kind (at_ ps k).kind = false) : onePc ps p f k = f k := by
  unfold onePc; rw [if_neg (by rw [h]; decide)]
/-- A kid of a negation or a conjunction. -/
theorem kid_unit {us : List Tk} {ps : List PD} {f : Nat → List Piece} {ν : Nat → Nat} {a k e : Nat} {p : PD} (h : PJ us ps f ν a k) (hp : p.kind = 3 ∨ p.kind = 4) (hc : condK (at_ ps k).kind) (hv : ν k = e + (if brB p.kind (at_ ps k).kind then 1 else 0)) (hle : ν k ≤ 32) {q : Nat} {Z : List Ct} {offs : List Nat} {d : Nat} (hd : e + d = 32)
    (hat : AtU us q (ctOf (onePc ps p f k) ++ Z)) : Gets ps (unitP us (lowL us d) ⟨q, e, ps.take a, offs⟩) (q + (ctOf (onePc ps p f k)).length) e k := by
  cases hb : brB p.kind (at_ ps k).kind with
  | true =>
    rw [hb, if_pos rfl] at hv
    rw [one_br hb] at hat ⊢
    have := bracket h hc hv hle (offs := offs) hd (by simpa using hat)
    simpa using this
  | false =>
    rw [hb] at hv
    rw [one_no hb] at hat ⊢
    have hk : (at_ ps k).kind ≠ 4 ∧ (at_ ps k).kind ≠ 5 := by
      unfold brB at hb
      rw [if_pos hp] at hb
      simpa using hb
    have e0 : ν k = e := by simpa using hv
    subst e0
    exact h.unit hc hk.1 hk.2 q Z offs d hd hat
/-- A kid of a disjunction. -/
theorem kid_conj {us : List Tk} {ps : List PD} {f : Nat → List Piece} {ν : Nat → Nat} {a k e : Nat} {p : PD} (h : PJ us ps f ν a k) (hp : p.kind = 5) (hc : condK (at_ ps k).kind) (hv : ν k = e + (if brB p.kind (at_ ps k).kind then 1 else 0)) (hle : ν k ≤ 32) {q : Nat} {Z : List Ct} {offs : List Nat} {d : Nat} (hd : e + d = 32) (hz : nx [38, 38] Z)
    (hat : AtU us q (ctOf (onePc ps p f k) ++ Z)) : Gets ps (conjP us (lowL us d) ⟨q, e, ps.take a, offs⟩) (q + (ctOf (onePc ps p f k)).length) e k := by
  cases hb : brB p.kind (at_ ps k).kind with
  | true =>
    rw [hb, if_pos rfl] at hv
    rw [one_br hb] at hat ⊢
    have := bracket h hc hv hle (offs := offs) hd (by simpa using hat)
    refine gets_list (by simpa using this) ?_ hz
    have := hat.skip
    simpa using this
  | false =>
    rw [hb] at hv
    rw [one_no hb] at hat ⊢
    have hk : (at_ ps k).kind ≠ 5 := by
      unfold brB at hb
      rw [if_neg (by rw [hp]; decide), if_pos hp] at hb
      simpa using hb
    have e0 : ν k = e := by simpa using hv
    subst e0
    exact h.conj' hc hk hd hz hat
theorem pd_eq {p : PD} {k : Int} {t : Bs} {n : Int} {ks : List Nat} (h1 : p.kind = k) (h2 : p.text = t) (h3 : p.num = n) (h4 : p.kids = ks) : (⟨k, t, n, ks⟩ : PD) = p := by
  obtain ⟨a, b, c, d⟩ := p
  subst h1 h2 h3 h4; rfl
/-- What a term begins with. -/
def firstT (c : Ct) : Prop := c.1 = 1 ∨ c.1 = 2 ∨ c = (4, [123], 0) ∨ (c.1 = 3 ∧ (c.2.1 = [110, 111, 100, 101] ∨ c.2.1 = [112, 111, 100] ∨ c.2.1 = [105, 116] ∨ c.2.1 = [105, 110, 116] ∨ c.2.1 = [99, 111, 117, 110, 116]))
theorem side_first {n : Int} (h : 1 ≤ n ∧ n ≤ 3) : firstT (3, sideW n, 0) := by
  have : n = 1 ∨ n = 2 ∨ n = 3 := by omega
  rcases this with rfl | rfl | rfl <;> simp [firstT, sideW]
theorem term_first {ps : List PD} {p : PD} {f : Nat → List Piece} (F : Fit ps p) (ht : termK p.kind) : ∃ c L, ctOf (partPc ps p f) = c :: L ∧ firstT c := by
  obtain ⟨k0, k1⟩ := ht
  have hc : p.kind = 11 ∨ p.kind = 12 ∨ p.kind = 13 ∨ p.kind = 14 ∨ p.kind = 15 ∨ p.kind = 16 ∨ p.kind = 17 ∨ p.kind = 18 ∨ p.kind = 19 ∨ p.kind = 20 := by omega
  rcases hc with h | h | h | h | h | h | h | h | h | h
  · exact ⟨_, _, by simp only [partPc, termPc, h]; simp; exact ct_Q _ _, .inl rfl⟩
  · exact ⟨_, _, by simp only [partPc, termPc, h]; simp; exact ct_N _ _, .inr (.inl rfl)⟩
  · exact ⟨_, _, by simp only [partPc, termPc, h]; simp; exact ct_M _ _, .inr (.inr (.inl rfl))⟩
  · exact ⟨_, _, by simp only [partPc, termPc, h]; simp; exact ct_W _ _, side_first (F.side (by omega))⟩
  · exact ⟨_, _, by simp only [partPc, termPc, h]; simp; exact ct_W _ _, side_first (F.side (by omega))⟩
  · exact ⟨_, _, by simp only [partPc, termPc, h]; simp; exact ct_W _ _, side_first (F.side (by omega))⟩
  · exact ⟨_, _, by simp only [partPc, termPc, h]; simp; exact ct_W _ _, side_first (F.side (by omega))⟩
  · exact ⟨_, _, by simp only [partPc, termPc, h]; simp; exact ct_W _ _, side_first (F.side (by omega))⟩
  · exact ⟨_, _, by simp only [partPc, termPc, h]; simp; exact ct_W _ _, by simp [firstT]⟩
  · exact ⟨_, _, by simp only [partPc, selPc, h]; simp; exact ct_W _ _, by simp [firstT]⟩
theorem unit_cmp {us : List Tk} {lo : Lv} {S : PS} {c : Ct} {L : List Ct} (hat : AtU us S.pos (c :: L)) (hc : firstT c) : unitP us lo S = cmpP us lo S := by
  obtain ⟨j1, j2, j3⟩ := kind_c hat.head
  unfold unitP
  rw [hat.is, hat.is]
  rcases hc with h | h | rfl | ⟨h, h2⟩
  · rw [if_neg (by rw [h]; simp), if_neg (by rw [h]; simp)]
    unfold atomP
    simp only
    rw [if_neg (by rw [j1, h]; decide)]
  · rw [if_neg (by rw [h]; simp), if_neg (by rw [h]; simp)]
    unfold atomP
    simp only
    rw [if_neg (by rw [j1, h]; decide)]
  · rw [if_neg (by decide), if_neg (by decide)]
    unfold atomP
    simp only
    rw [if_neg (by rw [j1]; decide)]
  · rw [if_neg (by rw [h]; simp), if_neg (by rw [h]; simp)]
    unfold atomP
    simp only
    rw [if_pos (by rw [j1, h])]
    rcases h2 with h2 | h2 | h2 | h2 | h2
    all_goals
      rw [j2, h2]
      rw [if_neg (by decide), if_neg (by decide), if_neg (by decide), if_neg (by decide), if_neg (by decide)]

end Go.Proofs.YtghhnnbbjlipcaaGreatDoor.X
set_option linter.unusedVariables false
set_option linter.unusedSimpArgs false
namespace Go.Proofs.YtghhnnbbjlipcaaGreatDoor.X
theorem Sub.leaf {ps : List PD} {a r : Nat} (h : Sub ps a r) (hk : (at_ ps r).kids = []) : a = r := by
  cases h with
  | mk _ _ segs h1 h2 h3 h4 =>
    rw [hk] at h2
    have : segs = [] := by cases segs with
      | nil => rfl
      | cons s ss => simp at h2
    subst this
    exact h3
theorem Sub.lone {ps : List PD} {a r k : Nat} (h : Sub ps a r) (hk : (at_ ps r).kids = [k]) : Sub ps a k ∧ k + 1 = r := by
  cases h with
  | mk _ _ segs h1 h2 h3 h4 =>
    rw [hk] at h2
    match segs, h2, h3, h4 with
    | [s], h2, h3, h4 =>
      simp only [List.map_cons, List.map_nil, List.cons.injEq, and_true] at h2
      obtain ⟨h5, h6⟩ := h3
      have := h4 s (List.mem_singleton.2 rfl)
      rw [h5, ← h2] at this
      simp only [Cvr] at h6
      exact ⟨this, by omega⟩
theorem Sub.pair {ps : List PD} {a r k l : Nat} (h : Sub ps a r) (hk : (at_ ps r).kids = [k, l]) : Sub ps a k ∧ Sub ps (k + 1) l ∧ l + 1 = r := by
  cases h with
  | mk _ _ segs h1 h2 h3 h4 =>
    rw [hk] at h2
    match segs, h2, h3, h4 with
    | [s, t], h2, h3, h4 =>
      simp only [List.map_cons, List.map_nil, List.cons.injEq, and_true] at h2
      obtain ⟨h5, h6, h7⟩ := h3
      have a1 := h4 s (by simp)
      have a2 := h4 t (by simp)
      rw [h5, ← h2.1] at a1
      rw [h6, ← h2.1, ← h2.2] at a2
      simp only [Cvr] at h7
      exact ⟨a1, a2, by omega⟩
theorem sideP_side {n : Int} (h : 1 ≤ n ∧ n ≤ 3) : sideP (sideW n) = n := by
  have : n = 1 ∨ n = 2 ∨ n = 3 := by omega
  rcases this with rfl | rfl | rfl <;> rfl
theorem side_ne {n : Int} (h : 1 ≤ n ∧ n ≤ 3) : (sideW n == ([105, 110, 116] : Bs)) = false ∧ (sideW n == ([99, 111, 117, 110, 116] : Bs)) = false := by
  have : n = 1 ∨ n = 2 ∨ n = 3 := by omega
  rcases this with rfl | rfl | rfl <;> exact ⟨by decide, by decide⟩
/-- What the descent asks of a key and a selector. -/
theorem scoped_gets {us : List Tk} {ps : List PD} {f : Nat → List Piece} {ν : Nat → Nat} (X : Ctx ps f ν) {a r : Nat} (h : Sub ps a r) {kind : Int} {w : Bs} (hk : (at_ ps r).kind = kind) (hkind : kind = 8 ∨ kind = 9 ∨ kind = 20) (ih : ∀ k ∈ (at_ ps r).kids, ∀ a, Sub ps a k → PJ us ps f ν a k) {q : Nat} {Z : List Ct} {offs : List Nat} {d : Nat} (hd : ν r + d = 32)
    (hat : AtU us q (ctOf (selPc ps (at_ ps r) f w) ++ Z)) : Gets ps (scopedP us (lowL us d) kind ⟨q, ν r, ps.take a, offs⟩) (q + (ctOf (selPc ps (at_ ps r) f w)).length) (ν r) r := by
  obtain ⟨h1, _⟩ := h.kids
  have F := X.hf.fit r h1
  obtain ⟨k, hk1⟩ := one_of_len (F.one (by rw [hk]; omega))
  obtain ⟨s1, s2⟩ := h.lone hk1
  have hb : brB (at_ ps r).kind (at_ ps k).kind = false := by rw [hk]; unfold brB; rw [if_neg (by omega), if_neg (by omega)]
  have hv := X.nu r h1 k (by rw [hk1]; exact List.mem_cons_self)
  rw [hb, hk] at hv
  have hr1 : rnd kind = 1 := by unfold rnd; rw [if_pos (by omega)]
  rw [hr1] at hv
  have hvle := X.le k (by omega)
  simp only [Bool.false_eq_true, if_false, Nat.add_zero] at hv
  have hc : condK (at_ ps k).kind := F.conds (by rw [hk]; omega) k (by rw [hk1]; exact List.mem_cons_self)
  have ect : ctOf (selPc ps (at_ ps r) f w) = (3, w, 0) :: (4, [40], 0) :: (1, (at_ ps r).text, 0) :: (4, [44], 0) :: (ctOf (f k) ++ [(4, [41], 0)]) := by
    unfold selPc
    rw [hk1, join_one, one_no hb]
    simp only [List.cons_append, List.nil_append, ct_app, ct_W, ct_M, ct_Q, ct_sp, ct_nil]
  rw [ect] at hat ⊢
  simp only [List.cons_append, List.append_assoc, List.nil_append] at hat
  obtain ⟨d, rfl⟩ : ∃ d', d = d' + 1 := ⟨d - 1, by omega⟩
  obtain ⟨o, ho⟩ := (ih k (by rw [hk1]; exact List.mem_cons_self) a s1).expr' hc (q := q + 1 + 1 + 1 + 1) (offs := offs) (d := d) (by omega) (nx_cons (by decide)) (nx_cons (by decide)) hat.tail.tail.tail.tail
  unfold scopedP
  simp only [on]
  rw [open_at (S := ⟨q + 1, ν r, ps.take a, offs⟩) hat.tail.head (by simp only; omega)]
  simp only [thenS]
  rw [text_at (S := ⟨q + 1 + 1, ν r + 1, ps.take a, offs⟩) hat.tail.tail.head]
  simp only [bindS, on]
  rw [mark_at (S := ⟨q + 1 + 1 + 1, ν r + 1, ps.take a, offs⟩) hat.tail.tail.tail.head]
  simp only [on]
  rw [hv] at ho
  have e1 : (lowL us (d + 1)).expr ⟨q + 1 + 1 + 1 + 1, ν r + 1, ps.take a, offs⟩ = exprP us (lowL us d) ⟨q + 1 + 1 + 1 + 1, ν r + 1, ps.take a, offs⟩ := lv_expr us d _
  rw [e1, ho]
  simp only
  rw [shut_at (S := ⟨q + 1 + 1 + 1 + 1 + (ctOf (f k)).length, ν r + 1, ps.take (k + 1), o⟩) hat.tail.tail.tail.tail.skip.head]
  simp only [Nat.add_sub_cancel]
  rw [s2]
  have := put_gets (a := q) (q := q + 1 + 1 + 1 + 1 + (ctOf (f k)).length + 1) (c := ν r) (offs := o) h1 (pd_eq hk rfl (F.nonum (by rw [hk]; omega)) hk1)
  have el : q + ((3, w, 0) :: (4, [40], 0) :: (1, (at_ ps r).text, 0) :: (4, [44], 0) :: (ctOf (f k) ++ [(4, [41], 0)]) : List Ct).length = q + 1 + 1 + 1 + 1 + (ctOf (f k)).length + 1 := by simp; omega
  rw [el]
  exact this
/-- A leaf of a set. -/
theorem leaf_form {ps : List PD} {f : Nat → List Piece} {ν : Nat → Nat} (X : Ctx ps f ν) {a k : Nat} (h : Sub ps a k) (hk : (at_ ps k).kind = 11 ∨ (at_ ps k).kind = 12) : a = k ∧ k < ps.length ∧ (at_ ps k = ⟨11, (at_ ps k).text, 0, []⟩ ∨ at_ ps k = ⟨12, [], (at_ ps k).num, []⟩) ∧ ctOf (f k) = [leafCt (at_ ps k)] := by
  obtain ⟨h1, _⟩ := h.kids
  have F := X.hf.fit k h1
  have hn := F.none_ (by omega)
  refine ⟨h.leaf hn, h1, ?_, ?_⟩
  · rcases hk with hk | hk
    · exact .inl (pd_eq hk rfl (F.nonum (by omega)) hn).symm
    · exact .inr (pd_eq hk (F.notext (by omega)) rfl hn).symm
  · rw [X.hf.eq k h1]
    rcases hk with hk | hk
    · simp only [partPc, termPc, leafCt, hk]; simp; exact ct_Q _ _
    · simp only [partPc, termPc, leafCt, hk]; simp; exact ct_N _ _
theorem leaf_len {ps : List PD} : ∀ rest : List (Nat × Nat), (rest.flatMap (fun s => [(4, [44], 0), leafCt (at_ ps s.2)])).length = 2 * rest.length
  | [] => rfl
  | t :: rest => by simp only [List.flatMap_cons, List.length_append, List.length_cons, List.length_nil, leaf_len rest]; omega
theorem set_gets {us : List Tk} {ps : List PD} {f : Nat → List Piece} {ν : Nat → Nat} (X : Ctx ps f ν) {a r : Nat} (h : Sub ps a r) (hk : (at_ ps r).kind = 13) {q : Nat} {Z : List Ct} {offs : List Nat} {c : Nat}
    (hat : AtU us q (ctOf (f r) ++ Z)) : Gets ps (setP us ⟨q, c, ps.take a, offs⟩) (q + (ctOf (f r)).length) c r := by
  have hsub := h
  cases h with
  | mk _ _ segs h1 h2 h3 h4 =>
    have F := X.hf.fit r h1
    have h64 := F.set_ hk
    rw [h2, List.length_map] at h64
    have hone : ∀ s ∈ segs, ctOf (onePc ps (at_ ps r) f s.2) = [leafCt (at_ ps s.2)] ∧ s.1 = s.2 ∧ s.2 < ps.length ∧ (at_ ps s.2 = ⟨11, (at_ ps s.2).text, 0, []⟩ ∨ at_ ps s.2 = ⟨12, [], (at_ ps s.2).num, []⟩) := fun s hs => by
      obtain ⟨k1, k2, k3, k4⟩ := leaf_form X (h4 s hs) (F.leafs hk s.2 (by rw [h2]; exact List.mem_map_of_mem hs))
      have hb : brB (at_ ps r).kind (at_ ps s.2).kind = false := by rw [hk]; rfl
      rw [one_no hb]
      exact ⟨k4, k1, k2, k3⟩
    have ef : ctOf (f r) = (4, [123], 0) :: (ctOf (joinPc ps (at_ ps r) [pM [44], sp] f (segs.map Prod.snd)) ++ [(4, [125], 0)]) := by
      rw [X.hf.eq r h1, ← h2]
      simp only [partPc, termPc, hk]
      simp only [Int.reduceEq, if_false, if_true, List.cons_append, List.nil_append, ct_M, ct_app, ct_nil]
    rw [ef] at hat ⊢
    unfold setP
    have hm : markP us [123] ⟨q, c, ps.take a, offs⟩ = .ok ⟨q + 1, c, ps.take a, offs⟩ := mark_at (S := ⟨q, c, ps.take a, offs⟩) hat.head
    rw [hm]
    simp only [thenS]
    have hp : (⟨13, [], 0, segs.map Prod.snd⟩ : PD) = at_ ps r := pd_eq hk (F.notext (by omega)) (F.nonum (by omega)) h2
    cases segs with
    | nil =>
      obtain rfl : a = r := h3
      have hat' : AtU us (q + 1) ((4, [125], 0) :: Z) := by simpa [joinPc, ct_nil] using hat.tail
      rw [show (5000 : Nat) = 4999 + 1 from rfl, setLoop, if_pos (by rw [AtU.is (S := ⟨q + 1, c, ps.take a, offs⟩) hat']; simp)]
      simp only [bindS, on]
      have := put_gets (a := q) (q := q + 1 + 1) (c := c) (offs := offs) h1 hp
      simpa [joinPc, ct_nil] using this
    | cons s rest =>
      have h3' := h3
      obtain ⟨g1, g2⟩ := h3
      obtain ⟨k0, k1, k2, k3⟩ := hone s List.mem_cons_self
      have eas : a = s.2 := by omega
      have ej : ctOf (joinPc ps (at_ ps r) [pM [44], sp] f ((s :: rest).map Prod.snd)) = leafCt (at_ ps s.2) :: rest.flatMap (fun s => [(4, [44], 0), leafCt (at_ ps s.2)]) := by
        have go : ∀ rest : List (Nat × Nat), (∀ t ∈ rest, ctOf (onePc ps (at_ ps r) f t.2) = [leafCt (at_ ps t.2)]) → ctOf ((rest.map Prod.snd).flatMap (fun k => [pM [44], sp] ++ onePc ps (at_ ps r) f k)) = rest.flatMap (fun s => [(4, [44], 0), leafCt (at_ ps s.2)]) := by
          intro rest
          induction rest with
          | nil => intro _; rfl
          | cons t rest ih =>
            intro ht
            rw [List.map_cons, List.flatMap_cons, ct_app, ct_app, ht t List.mem_cons_self, ih (fun u hu => ht u (List.mem_cons_of_mem _ hu))]
            rfl
        simp only [List.map_cons, joinPc, ct_app]
        rw [k0, go rest (fun t ht => (hone t (List.mem_cons_of_mem _ ht)).1)]
        rfl
      rw [ej] at hat ⊢
      have hat' : AtU us (q + 1) (leafCt (at_ ps s.2) :: (rest.flatMap (fun s => [(4, [44], 0), leafCt (at_ ps s.2)]) ++ ((4, [125], 0) :: Z))) := by simpa using hat.tail
      obtain ⟨j1, j2, j3⟩ := kind_c (S := ⟨q + 1, c, ps.take a, offs⟩) hat'.head
      simp only [List.length_cons] at h64
      obtain ⟨o2, e2⟩ := set_run (c := c) rest 4999 (q + 2) (s.2 + 1) r Z (offs ++ [q + 1]) [s.2] (by omega) (by simp; omega) (by simp) g2 hat'.tail (fun t ht => (hone t (List.mem_cons_of_mem _ ht)).2)
      have hlen : (ps.take a).length = s.2 := by rw [List.length_take]; omega
      have fin : ∀ (x : PR (List Nat)), x = .ok ([s.2] ++ rest.map Prod.snd, ⟨q + 2 + 2 * rest.length, c, ps.take r, o2⟩) → Gets ps (bindS x fun kids S2 => putP q ⟨13, [], 0, kids⟩ (on S2)) (q + ((4, [123], 0) :: (leafCt (at_ ps s.2) :: rest.flatMap (fun s => [(4, [44], 0), leafCt (at_ ps s.2)]) ++ [(4, [125], 0)]) : List Ct).length) c r := fun x hx => by
        rw [hx]
        simp only [bindS, on]
        have := put_gets (a := q) (q := q + 2 + 2 * rest.length + 1) (c := c) (offs := o2) h1 hp
        have el : q + ((4, [123], 0) :: (leafCt (at_ ps s.2) :: rest.flatMap (fun s => [(4, [44], 0), leafCt (at_ ps s.2)]) ++ [(4, [125], 0)]) : List Ct).length = q + 2 + 2 * rest.length + 1 := by
          have hll := leaf_len (ps := ps) rest
          simp only [List.length_cons, List.cons_append, List.length_append, List.length_nil]
          omega
        rw [el]
        simpa using this
      apply fin
      rw [show (5000 : Nat) = 4999 + 1 from rfl, setLoop]
      rcases k3 with k3 | k3
      · have hl : leafCt (at_ ps s.2) = (1, (at_ ps s.2).text, 0) := by unfold leafCt; rw [if_pos (by rw [k3])]
        rw [hl] at j1 j2 j3 hat'
        rw [if_neg (by rw [AtU.is (S := ⟨q + 1, c, ps.take a, offs⟩) hat']; simp), if_neg (by simp)]
        simp only [thenS]
        rw [if_neg (by rw [j1]; simp), if_neg (by simp), if_pos j1, j2]
        have e : putS (q + 1) ⟨11, (at_ ps s.2).text, 0, []⟩ (on ⟨q + 1, c, ps.take a, offs⟩) = ⟨q + 2, c, ps.take (s.2 + 1), offs ++ [q + 1]⟩ := by
          rw [take_at k2, ← k3, eas]; rfl
        simp only at e ⊢
        rw [e, hlen]
        exact e2
      · have hl : leafCt (at_ ps s.2) = (2, [], (at_ ps s.2).num) := by unfold leafCt; rw [if_neg (by rw [k3]; simp)]
        rw [hl] at j1 j2 j3 hat'
        rw [if_neg (by rw [AtU.is (S := ⟨q + 1, c, ps.take a, offs⟩) hat']; simp), if_neg (by simp)]
        simp only [thenS]
        rw [if_neg (by rw [j1]; simp), if_neg (by simp), if_neg (by rw [j1]; simp), j3]
        have e : putS (q + 1) ⟨12, [], (at_ ps s.2).num, []⟩ (on ⟨q + 1, c, ps.take a, offs⟩) = ⟨q + 2, c, ps.take (s.2 + 1), offs ++ [q + 1]⟩ := by
          rw [take_at k2, ← k3, eas]; rfl
        simp only at e ⊢
        rw [e, hlen]
        exact e2

end Go.Proofs.YtghhnnbbjlipcaaGreatDoor.X
set_option linter.unusedVariables false
set_option linter.unusedSimpArgs false
namespace Go.Proofs.YtghhnnbbjlipcaaGreatDoor.X
section
variable {ps : List PD} {p : PD} {f : Nat → List Piece}
theorem pt1 (h : p.kind = 1) : partPc ps p f = [pW [116, 114, 117, 101]] := by simp [partPc, h]
theorem pt2 (h : p.kind = 2) : partPc ps p f = [pW [102, 97, 108, 115, 101]] := by simp [partPc, h]
theorem pt3 (h : p.kind = 3) : partPc ps p f = [pM [33]] ++ joinPc ps p [] f p.kids := by simp [partPc, h]
theorem pt4 (h : p.kind = 4) : partPc ps p f = joinPc ps p [sp, pM [38, 38], sp] f p.kids := by simp [partPc, h]
theorem pt5 (h : p.kind = 5) : partPc ps p f = joinPc ps p [sp, pM [124, 124], sp] f p.kids := by simp [partPc, h]
theorem pt6 (h : p.kind = 6) : partPc ps p f = joinPc ps p [sp, pM (cmpW p.num), sp] f p.kids := by simp [partPc, h]
theorem pt7 (h : p.kind = 7) : partPc ps p f = if p.num = 0 then joinPc ps p [sp, pW [105, 110], sp] f p.kids else joinPc ps p [sp, pW [110, 111, 116, 105, 110], sp] f p.kids := by simp [partPc, h]
theorem pt8 (h : p.kind = 8) : partPc ps p f = selPc ps p f [110, 101, 97, 114] := by simp [partPc, h]
theorem pt9 (h : p.kind = 9) : partPc ps p f = selPc ps p f [97, 112, 97, 114, 116] := by simp [partPc, h]
theorem pt10 (h : p.kind = 10) : partPc ps p f = [pW [116, 111, 108, 101, 114, 97, 116, 101, 100], pM [40], pQ p.text, pM [41]] := by simp [partPc, termPc, h]
theorem pt19 (h : p.kind = 19) : partPc ps p f = [pW [105, 110, 116], pM [40]] ++ joinPc ps p [] f p.kids ++ [pM [41]] := by simp [partPc, termPc, h]
theorem pt20 (h : p.kind = 20) : partPc ps p f = selPc ps p f [99, 111, 117, 110, 116] := by simp [partPc, h]
end
/-- A label, a field. -/
theorem owned_at {us : List Tk} {S : PS} {n : Int} (h : cont (us.getD S.pos endT) = (3, sideW n, 0)) (hn : 1 ≤ n ∧ n ≤ 3) : ownedP us S = ownK us S.pos n (on S) := by
  obtain ⟨j1, j2, j3⟩ := kind_c h
  unfold ownedP
  rw [j1, j2, sideP_side hn, if_neg (by simp; omega)]
theorem term_owned {us : List Tk} {lo : Lv} {S : PS} {n : Int} (h : cont (us.getD S.pos endT) = (3, sideW n, 0)) (hn : 1 ≤ n ∧ n ≤ 3) : termP us lo S = ownK us S.pos n (on S) := by
  obtain ⟨j1, j2, j3⟩ := kind_c h
  obtain ⟨s1, s2⟩ := side_ne hn
  unfold termP
  simp only
  rw [if_neg (by rw [j1]; simp), if_neg (by rw [j1]; simp), isT_c h, if_neg (by simp), isT_c h, if_neg (by rw [s1]; simp), isT_c h, if_neg (by rw [s2]; simp)]
  exact owned_at h hn
theorem ownK_lab {us : List Tk} {S : PS} {p : Nat} {n : Int} {Z : List Ct} (h : AtU us S.pos ((4, [91], 0) :: Z)) : ownK us p n S = bindS (textP us (on S)) fun s S2 => thenS (markP us [93] S2) fun S3 => putP p ⟨14, s, n, []⟩ S3 := by
  have h1 : isT us S 4 [91] = true := by rw [h.is]; simp
  unfold ownK; rw [if_pos h1]
theorem ownK_dot {us : List Tk} {S : PS} {p : Nat} {n : Int} {Z : List Ct} (h : AtU us S.pos ((4, [46], 0) :: Z)) : ownK us p n S = ownN us p n (on S) := by
  have h1 : isT us S 4 [91] = false := by rw [h.is]; simp
  have h2 : isT us S 4 [46] = true := by rw [h.is]; simp
  unfold ownK; rw [if_neg (by rw [h1]; decide), if_pos h2]
theorem ownN_1 {us : List Tk} {S : PS} {p : Nat} {n : Int} {Z : List Ct} (h : AtU us S.pos ((3, [110, 97, 109, 101], 0) :: Z)) : ownN us p n S = putP p ⟨15, [], n, []⟩ (on S) := by
  have h1 : isT us S 3 [110, 97, 109, 101] = true := by rw [h.is]; simp
  unfold ownN; rw [if_pos h1]
theorem ownN_2 {us : List Tk} {S : PS} {p : Nat} {n : Int} {Z : List Ct} (h : AtU us S.pos ((3, [107, 101, 121, 115], 0) :: Z)) : ownN us p n S = putP p ⟨16, [], n, []⟩ (on S) := by
  have h1 : isT us S 3 [110, 97, 109, 101] = false := by rw [h.is]; simp
  have h2 : isT us S 3 [107, 101, 121, 115] = true := by rw [h.is]; simp
  unfold ownN; rw [if_neg (by rw [h1]; decide), if_pos h2]
theorem ownN_3 {us : List Tk} {S : PS} {p : Nat} {n : Int} {Z : List Ct} (h : AtU us S.pos ((3, [116, 97, 105, 110, 116, 115], 0) :: Z)) : ownN us p n S = putP p ⟨17, [], n, []⟩ (on S) := by
  have h1 : isT us S 3 [110, 97, 109, 101] = false := by rw [h.is]; simp
  have h2 : isT us S 3 [107, 101, 121, 115] = false := by rw [h.is]; simp
  have h3 : isT us S 3 [116, 97, 105, 110, 116, 115] = true := by rw [h.is]; simp
  unfold ownN; rw [if_neg (by rw [h1]; decide), if_neg (by rw [h2]; decide), if_pos h3]
theorem ownN_4 {us : List Tk} {S : PS} {p : Nat} {n : Int} {Z : List Ct} (h : AtU us S.pos ((3, [99, 97, 112], 0) :: Z)) : ownN us p n S = thenS (markP us [40] (on S)) fun S3 => bindS (textP us S3) fun s S4 => thenS (markP us [41] S4) fun S5 => putP p ⟨18, s, n, []⟩ S5 := by
  have h1 : isT us S 3 [110, 97, 109, 101] = false := by rw [h.is]; simp
  have h2 : isT us S 3 [107, 101, 121, 115] = false := by rw [h.is]; simp
  have h3 : isT us S 3 [116, 97, 105, 110, 116, 115] = false := by rw [h.is]; simp
  have h4 : isT us S 3 [99, 97, 112] = true := by rw [h.is]; simp
  unfold ownN; rw [if_neg (by rw [h1]; decide), if_neg (by rw [h2]; decide), if_neg (by rw [h3]; decide), if_pos h4]
theorem term_gets {us : List Tk} {ps : List PD} {f : Nat → List Piece} {ν : Nat → Nat} (X : Ctx ps f ν) {a r : Nat} (h : Sub ps a r) (ih : ∀ k ∈ (at_ ps r).kids, ∀ a, Sub ps a k → PJ us ps f ν a k) (ht : termK (at_ ps r).kind) {q : Nat} {Z : List Ct} {offs : List Nat} {d : Nat} (hd : ν r + d = 32)
    (hat : AtU us q (ctOf (f r) ++ Z)) : Gets ps (termP us (lowL us d) ⟨q, ν r, ps.take a, offs⟩) (q + (ctOf (f r)).length) (ν r) r := by
  obtain ⟨h1, _⟩ := h.kids
  have F := X.hf.fit r h1
  obtain ⟨k0, k1⟩ := ht
  have hc : (at_ ps r).kind = 11 ∨ (at_ ps r).kind = 12 ∨ (at_ ps r).kind = 13 ∨ (at_ ps r).kind = 14 ∨ (at_ ps r).kind = 15 ∨ (at_ ps r).kind = 16 ∨ (at_ ps r).kind = 17 ∨ (at_ ps r).kind = 18 ∨ (at_ ps r).kind = 19 ∨ (at_ ps r).kind = 20 := by omega
  have nok : (at_ ps r).kids = [] → a = r := fun e => h.leaf e
  rcases hc with hk | hk | hk | hk | hk | hk | hk | hk | hk | hk
  · have hn := F.none_ (by omega)
    obtain rfl := nok hn
    have ef : ctOf (f a) = [(1, (at_ ps a).text, 0)] := by rw [X.hf.eq a h1]; simp only [partPc, termPc, hk]; simp; exact ct_Q _ _
    rw [ef] at hat ⊢
    have hat' : AtU us q ((1, (at_ ps a).text, 0) :: Z) := hat
    obtain ⟨j1, j2, j3⟩ := kind_c (S := ⟨q, ν a, ps.take a, offs⟩) hat'.head
    unfold termP
    simp only
    rw [if_pos j1, j2]
    exact put_gets h1 (pd_eq hk rfl (F.nonum (by omega)) hn)
  · have hn := F.none_ (by omega)
    obtain rfl := nok hn
    have ef : ctOf (f a) = [(2, [], (at_ ps a).num)] := by rw [X.hf.eq a h1]; simp only [partPc, termPc, hk]; simp; exact ct_N _ _
    rw [ef] at hat ⊢
    have hat' : AtU us q ((2, [], (at_ ps a).num) :: Z) := hat
    obtain ⟨j1, j2, j3⟩ := kind_c (S := ⟨q, ν a, ps.take a, offs⟩) hat'.head
    unfold termP
    simp only
    rw [if_neg (by rw [j1]; simp), if_pos j1, j3]
    exact put_gets h1 (pd_eq hk (F.notext (by omega)) rfl hn)
  · have hat0 := hat
    have ef : ∃ L, ctOf (f r) = (4, [123], 0) :: L := by rw [X.hf.eq r h1]; exact ⟨_, by simp only [partPc, termPc, hk]; simp; exact ct_M _ _⟩
    obtain ⟨L, ef⟩ := ef
    have hat' : AtU us q ((4, [123], 0) :: (L ++ Z)) := by rw [ef] at hat; exact hat
    obtain ⟨j1, j2, j3⟩ := kind_c (S := ⟨q, ν r, ps.take a, offs⟩) hat'.head
    unfold termP
    simp only
    rw [if_neg (by rw [j1]; simp), if_neg (by rw [j1]; simp), if_pos (by rw [AtU.is (S := ⟨q, ν r, ps.take a, offs⟩) hat']; simp)]
    exact set_gets X h hk hat0
  · have hn := F.none_ (by omega)
    obtain rfl := nok hn
    have hs := F.side (by omega)
    have ef : ctOf (f a) = [(3, sideW (at_ ps a).num, 0), (4, [91], 0), (1, (at_ ps a).text, 0), (4, [93], 0)] := by rw [X.hf.eq a h1]; simp only [partPc, termPc, hk]; simp [ct_W, ct_M, ct_Q, ct_nil]
    rw [ef] at hat ⊢
    have hat' : AtU us q ((3, sideW (at_ ps a).num, 0) :: (4, [91], 0) :: (1, (at_ ps a).text, 0) :: (4, [93], 0) :: Z) := hat
    rw [term_owned (S := ⟨q, ν a, ps.take a, offs⟩) hat'.head hs]
    rw [ownK_lab (S := on ⟨q, ν a, ps.take a, offs⟩) hat'.tail]
    simp only [on]
    rw [text_at (S := ⟨q + 1 + 1, ν a, ps.take a, offs⟩) hat'.tail.tail.head]
    simp only [bindS, on]
    rw [mark_at (S := ⟨q + 1 + 1 + 1, ν a, ps.take a, offs⟩) hat'.tail.tail.tail.head]
    simp only [thenS, on]
    exact put_gets h1 (pd_eq hk rfl rfl hn)
  · have hn := F.none_ (by omega)
    obtain rfl := nok hn
    have hs := F.side (by omega)
    have ef : ctOf (f a) = [(3, sideW (at_ ps a).num, 0), (4, [46], 0), (3, [110, 97, 109, 101], 0)] := by rw [X.hf.eq a h1]; simp only [partPc, termPc, hk]; simp [ct_W, ct_M, ct_Q, ct_nil]
    rw [ef] at hat ⊢
    have hat' : AtU us q ((3, sideW (at_ ps a).num, 0) :: (4, [46], 0) :: (3, [110, 97, 109, 101], 0) :: Z) := hat
    rw [term_owned (S := ⟨q, ν a, ps.take a, offs⟩) hat'.head hs]
    rw [ownK_dot (S := on ⟨q, ν a, ps.take a, offs⟩) hat'.tail, ownN_1 (S := on (on ⟨q, ν a, ps.take a, offs⟩)) hat'.tail.tail]
    simp only [on]
    exact put_gets h1 (pd_eq hk (F.notext (by omega)) rfl hn)
  · have hn := F.none_ (by omega)
    obtain rfl := nok hn
    have hs := F.side (by omega)
    have ef : ctOf (f a) = [(3, sideW (at_ ps a).num, 0), (4, [46], 0), (3, [107, 101, 121, 115], 0)] := by rw [X.hf.eq a h1]; simp only [partPc, termPc, hk]; simp [ct_W, ct_M, ct_Q, ct_nil]
    rw [ef] at hat ⊢
    have hat' : AtU us q ((3, sideW (at_ ps a).num, 0) :: (4, [46], 0) :: (3, [107, 101, 121, 115], 0) :: Z) := hat
    rw [term_owned (S := ⟨q, ν a, ps.take a, offs⟩) hat'.head hs]
    rw [ownK_dot (S := on ⟨q, ν a, ps.take a, offs⟩) hat'.tail, ownN_2 (S := on (on ⟨q, ν a, ps.take a, offs⟩)) hat'.tail.tail]
    simp only [on]
    exact put_gets h1 (pd_eq hk (F.notext (by omega)) rfl hn)
  · have hn := F.none_ (by omega)
    obtain rfl := nok hn
    have hs := F.side (by omega)
    have ef : ctOf (f a) = [(3, sideW (at_ ps a).num, 0), (4, [46], 0), (3, [116, 97, 105, 110, 116, 115], 0)] := by rw [X.hf.eq a h1]; simp only [partPc, termPc, hk]; simp [ct_W, ct_M, ct_Q, ct_nil]
    rw [ef] at hat ⊢
    have hat' : AtU us q ((3, sideW (at_ ps a).num, 0) :: (4, [46], 0) :: (3, [116, 97, 105, 110, 116, 115], 0) :: Z) := hat
    rw [term_owned (S := ⟨q, ν a, ps.take a, offs⟩) hat'.head hs]
    rw [ownK_dot (S := on ⟨q, ν a, ps.take a, offs⟩) hat'.tail, ownN_3 (S := on (on ⟨q, ν a, ps.take a, offs⟩)) hat'.tail.tail]
    simp only [on]
    exact put_gets h1 (pd_eq hk (F.notext (by omega)) rfl hn)
  · have hn := F.none_ (by omega)
    obtain rfl := nok hn
    have hs := F.side (by omega)
    have ef : ctOf (f a) = [(3, sideW (at_ ps a).num, 0), (4, [46], 0), (3, [99, 97, 112], 0), (4, [40], 0), (1, (at_ ps a).text, 0), (4, [41], 0)] := by rw [X.hf.eq a h1]; simp only [partPc, termPc, hk]; simp [ct_W, ct_M, ct_Q, ct_nil]
    rw [ef] at hat ⊢
    have hat' : AtU us q ((3, sideW (at_ ps a).num, 0) :: (4, [46], 0) :: (3, [99, 97, 112], 0) :: (4, [40], 0) :: (1, (at_ ps a).text, 0) :: (4, [41], 0) :: Z) := hat
    rw [term_owned (S := ⟨q, ν a, ps.take a, offs⟩) hat'.head hs]
    rw [ownK_dot (S := on ⟨q, ν a, ps.take a, offs⟩) hat'.tail, ownN_4 (S := on (on ⟨q, ν a, ps.take a, offs⟩)) hat'.tail.tail]
    simp only [on]
    rw [mark_at (S := ⟨q + 1 + 1 + 1, ν a, ps.take a, offs⟩) hat'.tail.tail.tail.head]
    simp only [thenS, on]
    rw [text_at (S := ⟨q + 1 + 1 + 1 + 1, ν a, ps.take a, offs⟩) hat'.tail.tail.tail.tail.head]
    simp only [bindS, on]
    rw [mark_at (S := ⟨q + 1 + 1 + 1 + 1 + 1, ν a, ps.take a, offs⟩) hat'.tail.tail.tail.tail.tail.head]
    simp only [on]
    exact put_gets h1 (pd_eq hk rfl rfl hn)
  · obtain ⟨k, hk1⟩ := one_of_len (F.one (by omega))
    obtain ⟨s1, s2⟩ := h.lone hk1
    have hb : brB (at_ ps r).kind (at_ ps k).kind = false := by rw [hk]; rfl
    have hv := X.nu r h1 k (by rw [hk1]; exact List.mem_cons_self)
    rw [hb, hk] at hv
    have hr1 : rnd 19 = 1 := rfl
    rw [hr1] at hv
    have hvle := X.le k (by omega)
    simp only [Bool.false_eq_true, if_false, Nat.add_zero] at hv
    have hct := F.terms (by omega) k (by rw [hk1]; exact List.mem_cons_self)
    have ef : ctOf (f r) = (3, [105, 110, 116], 0) :: (4, [40], 0) :: (ctOf (f k) ++ [(4, [41], 0)]) := by
      rw [X.hf.eq r h1]
      rw [pt19 hk, hk1, join_one, one_no hb]
      simp only [List.cons_append, List.nil_append, ct_app, ct_W, ct_M, ct_nil]
    rw [ef] at hat ⊢
    simp only [List.cons_append, List.append_assoc, List.nil_append] at hat
    obtain ⟨d, rfl⟩ : ∃ d', d = d' + 1 := ⟨d - 1, by omega⟩
    obtain ⟨j1, j2, j3⟩ := kind_c (S := ⟨q, ν r, ps.take a, offs⟩) hat.head
    obtain ⟨o, ho⟩ := (ih k (by rw [hk1]; exact List.mem_cons_self) a s1).term hct (q + 1 + 1) ((4, [41], 0) :: Z) offs d (by omega) hat.tail.tail
    unfold termP
    simp only
    rw [if_neg (by rw [j1]; simp), if_neg (by rw [j1]; simp), if_neg (by rw [AtU.is (S := ⟨q, ν r, ps.take a, offs⟩) hat]; simp), if_pos (by rw [AtU.is (S := ⟨q, ν r, ps.take a, offs⟩) hat]; simp)]
    simp only [on]
    rw [open_at (S := ⟨q + 1, ν r, ps.take a, offs⟩) hat.tail.head (by simp only; omega)]
    simp only [thenS]
    rw [hv] at ho
    have e1 : (lowL us (d + 1)).term ⟨q + 1 + 1, ν r + 1, ps.take a, offs⟩ = termP us (lowL us d) ⟨q + 1 + 1, ν r + 1, ps.take a, offs⟩ := lv_term us d _
    rw [e1, ho]
    simp only [bindS]
    rw [shut_at (S := ⟨q + 1 + 1 + (ctOf (f k)).length, ν r + 1, ps.take (k + 1), o⟩) hat.tail.tail.skip.head]
    simp only [Nat.add_sub_cancel]
    rw [s2]
    have := put_gets (a := q) (q := q + 1 + 1 + (ctOf (f k)).length + 1) (c := ν r) (offs := o) h1 (pd_eq hk (F.notext (by omega)) (F.nonum (by omega)) hk1)
    have el : q + ((3, [105, 110, 116], 0) :: (4, [40], 0) :: (ctOf (f k) ++ [(4, [41], 0)]) : List Ct).length = q + 1 + 1 + (ctOf (f k)).length + 1 := by simp; omega
    rw [el]
    exact this
  · have ef : f r = selPc ps (at_ ps r) f [99, 111, 117, 110, 116] := by rw [X.hf.eq r h1, pt20 hk]
    rw [ef] at hat ⊢
    have hat0 := hat
    have hat' : ∃ L, AtU us q ((3, [99, 111, 117, 110, 116], 0) :: L) := ⟨_, by unfold selPc at hat; simp only [List.cons_append, ct_W] at hat; exact hat⟩
    obtain ⟨L, hat'⟩ := hat'
    obtain ⟨j1, j2, j3⟩ := kind_c (S := ⟨q, ν r, ps.take a, offs⟩) hat'.head
    unfold termP
    simp only
    rw [if_neg (by rw [j1]; simp), if_neg (by rw [j1]; simp), if_neg (by rw [AtU.is (S := ⟨q, ν r, ps.take a, offs⟩) hat']; simp), if_neg (by rw [AtU.is (S := ⟨q, ν r, ps.take a, offs⟩) hat']; simp), if_pos (by rw [AtU.is (S := ⟨q, ν r, ps.take a, offs⟩) hat']; simp)]
    exact scoped_gets X h hk (by omega) ih hd hat0

end Go.Proofs.YtghhnnbbjlipcaaGreatDoor.X
set_option linter.unusedVariables false
set_option linter.unusedSimpArgs false
namespace Go.Proofs.YtghhnnbbjlipcaaGreatDoor.X
theorem relation_at {us : List Tk} {S : PS} {n : Int} (hn : 1 ≤ n ∧ n ≤ 6) {Z : List Ct} (h : AtU us S.pos ((4, cmpW n, 0) :: Z)) : relationP us S = .ok ((6, n), on S) := by
  have : n = 1 ∨ n = 2 ∨ n = 3 ∨ n = 4 ∨ n = 5 ∨ n = 6 := by omega
  unfold relationP
  simp only [h.is]
  rcases this with rfl | rfl | rfl | rfl | rfl | rfl <;> simp [cmpW]
theorem relation_in {us : List Tk} {S : PS} {Z : List Ct} (h : AtU us S.pos ((3, [105, 110], 0) :: Z)) : relationP us S = .ok ((7, 0), on S) := by
  unfold relationP
  simp only [h.is]
  simp
theorem relation_not {us : List Tk} {S : PS} {Z : List Ct} (h : AtU us S.pos ((3, [110, 111, 116, 105, 110], 0) :: Z)) : relationP us S = .ok ((7, 1), on S) := by
  unfold relationP
  simp only [h.is]
  simp
/-- A comparison, a membership. -/
theorem cmp_gets {us : List Tk} {ps : List PD} {f : Nat → List Piece} {ν : Nat → Nat} (X : Ctx ps f ν) {a r : Nat} (h : Sub ps a r) (ih : ∀ k ∈ (at_ ps r).kids, ∀ a, Sub ps a k → PJ us ps f ν a k) (hk : (at_ ps r).kind = 6 ∨ (at_ ps r).kind = 7) {mid : Ct} {sep : List Piece} (hsep : ctOf sep = [mid])
    (ef : f r = joinPc ps (at_ ps r) sep f (at_ ps r).kids) (hrel : ∀ S Z, AtU us S.pos (mid :: Z) → relationP us S = .ok (((at_ ps r).kind, (at_ ps r).num), on S)) {q : Nat} {Z : List Ct} {offs : List Nat} {d : Nat} (hd : ν r + d = 32)
    (hat : AtU us q (ctOf (f r) ++ Z)) : Gets ps (unitP us (lowL us d) ⟨q, ν r, ps.take a, offs⟩) (q + (ctOf (f r)).length) (ν r) r := by
  obtain ⟨h1, _⟩ := h.kids
  have F := X.hf.fit r h1
  obtain ⟨k, l, hkl⟩ : ∃ k l, (at_ ps r).kids = [k, l] := by
    have := F.two hk
    match (at_ ps r).kids, this with
    | [k, l], _ => exact ⟨k, l, rfl⟩
  obtain ⟨s1, s2, s3⟩ := h.pair hkl
  have hkl2 := s2.le
  have hbk : ∀ x : Int, brB (at_ ps r).kind x = false := fun x => by unfold brB; rw [if_neg (by omega), if_neg (by omega)]
  have hr0 : rnd (at_ ps r).kind = 0 := by unfold rnd; rw [if_neg (by omega)]
  have hvk := X.nu r h1 k (by rw [hkl]; exact List.mem_cons_self)
  have hvl := X.nu r h1 l (by rw [hkl]; exact List.mem_cons_of_mem _ List.mem_cons_self)
  rw [hbk, hr0] at hvk hvl
  simp only [Bool.false_eq_true, if_false, Nat.add_zero] at hvk hvl
  have tk := F.terms (by omega) k (by rw [hkl]; exact List.mem_cons_self)
  have tl := F.terms (by omega) l (by rw [hkl]; exact List.mem_cons_of_mem _ List.mem_cons_self)
  have ect : ctOf (f r) = ctOf (f k) ++ (mid :: ctOf (f l)) := by
    rw [ef, hkl]
    simp only [joinPc, List.flatMap_cons, List.flatMap_nil, List.append_nil, ct_app, hsep, one_no (hbk _)]
    rfl
  rw [ect] at hat ⊢
  rw [List.append_assoc, List.cons_append] at hat
  obtain ⟨c0, L, e0, hf0⟩ := term_first (f := f) (X.hf.fit k (by omega)) tk
  rw [← X.hf.eq k (by omega)] at e0
  have hat0 := hat
  rw [e0, List.cons_append] at hat0
  rw [unit_cmp (S := ⟨q, ν r, ps.take a, offs⟩) hat0 hf0]
  obtain ⟨o1, e1⟩ := (ih k (by rw [hkl]; exact List.mem_cons_self) a s1).term tk q _ offs d (by omega) hat
  rw [hvk] at e1
  obtain ⟨o2, e2⟩ := (ih l (by rw [hkl]; exact List.mem_cons_of_mem _ List.mem_cons_self) (k + 1) s2).term tl (q + (ctOf (f k)).length + 1) Z o1 d (by omega) hat.skip.tail
  rw [hvl] at e2
  unfold cmpP
  rw [e1]
  simp only [bindS]
  rw [hrel ⟨q + (ctOf (f k)).length, ν r, ps.take (k + 1), o1⟩ _ hat.skip]
  simp only [on]
  rw [e2]
  simp only
  rw [s3]
  have := put_gets (a := q + (ctOf (f k)).length) (q := q + (ctOf (f k)).length + 1 + (ctOf (f l)).length) (c := ν r) (offs := o2) h1 (pd_eq rfl (F.notext (by omega)) rfl hkl)
  have el : q + (ctOf (f k) ++ mid :: ctOf (f l)).length = q + (ctOf (f k)).length + 1 + (ctOf (f l)).length := by simp; omega
  rw [el]
  exact this
theorem atom_word {us : List Tk} {lo : Lv} {S : PS} {w : Bs} {Z : List Ct} (h : AtU us S.pos ((3, w, 0) :: Z)) : unitP us lo S = atomP us lo S := by
  have h1 : isT us S 4 [33] = false := by rw [h.is]; simp
  have h2 : isT us S 4 [40] = false := by rw [h.is]; simp
  unfold unitP
  rw [if_neg (by rw [h1]; decide), if_neg (by rw [h2]; decide)]
theorem unit_gets {us : List Tk} {ps : List PD} {f : Nat → List Piece} {ν : Nat → Nat} (X : Ctx ps f ν) {a r : Nat} (h : Sub ps a r) (ih : ∀ k ∈ (at_ ps r).kids, ∀ a, Sub ps a k → PJ us ps f ν a k) (hc : condK (at_ ps r).kind) (n4 : (at_ ps r).kind ≠ 4) (n5 : (at_ ps r).kind ≠ 5) {q : Nat} {Z : List Ct} {offs : List Nat} {d : Nat} (hd : ν r + d = 32)
    (hat : AtU us q (ctOf (f r) ++ Z)) : Gets ps (unitP us (lowL us d) ⟨q, ν r, ps.take a, offs⟩) (q + (ctOf (f r)).length) (ν r) r := by
  obtain ⟨h1, _⟩ := h.kids
  have F := X.hf.fit r h1
  have ef0 := X.hf.eq r h1
  obtain ⟨k0, k1⟩ := hc
  have hcs : (at_ ps r).kind = 1 ∨ (at_ ps r).kind = 2 ∨ (at_ ps r).kind = 3 ∨ (at_ ps r).kind = 6 ∨ (at_ ps r).kind = 7 ∨ (at_ ps r).kind = 8 ∨ (at_ ps r).kind = 9 ∨ (at_ ps r).kind = 10 := by omega
  rcases hcs with hk | hk | hk | hk | hk | hk | hk | hk
  · have hn := F.none_ (by omega)
    obtain rfl := h.leaf hn
    have ef : ctOf (f a) = [(3, [116, 114, 117, 101], 0)] := by rw [ef0, pt1 hk]; rfl
    rw [ef] at hat ⊢
    have hat' : AtU us q ((3, [116, 114, 117, 101], 0) :: Z) := hat
    obtain ⟨j1, j2, j3⟩ := kind_c (S := ⟨q, ν a, ps.take a, offs⟩) hat'.head
    rw [atom_word (S := ⟨q, ν a, ps.take a, offs⟩) hat']
    unfold atomP
    simp only
    rw [if_pos j1, if_pos j2]
    exact put_gets h1 (pd_eq hk (F.notext (by omega)) (F.nonum (by omega)) hn)
  · have hn := F.none_ (by omega)
    obtain rfl := h.leaf hn
    have ef : ctOf (f a) = [(3, [102, 97, 108, 115, 101], 0)] := by rw [ef0, pt2 hk]; rfl
    rw [ef] at hat ⊢
    have hat' : AtU us q ((3, [102, 97, 108, 115, 101], 0) :: Z) := hat
    obtain ⟨j1, j2, j3⟩ := kind_c (S := ⟨q, ν a, ps.take a, offs⟩) hat'.head
    rw [atom_word (S := ⟨q, ν a, ps.take a, offs⟩) hat']
    unfold atomP
    simp only
    rw [if_pos j1, j2, if_neg (by decide), if_pos rfl]
    exact put_gets h1 (pd_eq hk (F.notext (by omega)) (F.nonum (by omega)) hn)
  · obtain ⟨k, hk1⟩ := one_of_len (F.one (by omega))
    obtain ⟨s1, s2⟩ := h.lone hk1
    have hv := X.nu r h1 k (by rw [hk1]; exact List.mem_cons_self)
    have hr1 : rnd (at_ ps r).kind = 1 := by rw [hk]; rfl
    rw [hr1] at hv
    have hvle := X.le k (by omega)
    have hck : condK (at_ ps k).kind := F.conds (by omega) k (by rw [hk1]; exact List.mem_cons_self)
    have ef : ctOf (f r) = (4, [33], 0) :: ctOf (onePc ps (at_ ps r) f k) := by
      rw [ef0, pt3 hk, hk1, join_one]; exact ct_M _ _
    rw [ef] at hat ⊢
    rw [List.cons_append] at hat
    obtain ⟨d, rfl⟩ : ∃ d', d = d' + 1 := ⟨d - 1, by omega⟩
    obtain ⟨o, ho⟩ := kid_unit (ih k (by rw [hk1]; exact List.mem_cons_self) a s1) (.inl hk) hck hv hvle (offs := offs) (d := d) (by omega) hat.tail
    have i1 : isT us ⟨q, ν r, ps.take a, offs⟩ 4 [33] = true := by rw [AtU.is (S := ⟨q, ν r, ps.take a, offs⟩) hat]; simp
    unfold unitP
    rw [if_pos i1, open_at (S := ⟨q, ν r, ps.take a, offs⟩) hat.head (by simp only; omega)]
    simp only [thenS]
    have e1 : (lowL us (d + 1)).unit ⟨q + 1, ν r + 1, ps.take a, offs⟩ = unitP us (lowL us d) ⟨q + 1, ν r + 1, ps.take a, offs⟩ := lv_unit us d _
    rw [e1, ho]
    simp only [bindS, closeN, Nat.add_sub_cancel]
    rw [s2]
    have := put_gets (a := q) (q := q + 1 + (ctOf (onePc ps (at_ ps r) f k)).length) (c := ν r) (offs := o) h1 (pd_eq hk (F.notext (by omega)) (F.nonum (by omega)) hk1)
    have el : q + ((4, [33], 0) :: ctOf (onePc ps (at_ ps r) f k) : List Ct).length = q + 1 + (ctOf (onePc ps (at_ ps r) f k)).length := by simp; omega
    rw [el]
    exact this
  · refine cmp_gets X h ih (.inl hk) (mid := (4, cmpW (at_ ps r).num, 0)) (sep := [sp, pM (cmpW (at_ ps r).num), sp]) (by rw [ct_sp, ct_M, ct_sp, ct_nil]) (by rw [ef0, pt6 hk]) (fun S Z hS => ?_) hd hat
    rw [relation_at (F.cmp hk) hS, hk]
  · rcases F.isin hk with hn | hn
    · refine cmp_gets X h ih (.inr hk) (mid := (3, [105, 110], 0)) (sep := [sp, pW [105, 110], sp]) (by rw [ct_sp, ct_W, ct_sp, ct_nil]) (by rw [ef0, pt7 hk, if_pos hn]) (fun S Z hS => ?_) hd hat
      rw [relation_in hS, hk, hn]
    · refine cmp_gets X h ih (.inr hk) (mid := (3, [110, 111, 116, 105, 110], 0)) (sep := [sp, pW [110, 111, 116, 105, 110], sp]) (by rw [ct_sp, ct_W, ct_sp, ct_nil]) (by rw [ef0, pt7 hk, if_neg (by omega)]) (fun S Z hS => ?_) hd hat
      rw [relation_not hS, hk, hn]
  · have ef : f r = selPc ps (at_ ps r) f [110, 101, 97, 114] := by rw [ef0, pt8 hk]
    rw [ef] at hat ⊢
    have hat0 := hat
    obtain ⟨L, hat'⟩ : ∃ L, AtU us q ((3, [110, 101, 97, 114], 0) :: L) := ⟨_, by unfold selPc at hat; simp only [List.cons_append, ct_W] at hat; exact hat⟩
    obtain ⟨j1, j2, j3⟩ := kind_c (S := ⟨q, ν r, ps.take a, offs⟩) hat'.head
    rw [atom_word (S := ⟨q, ν r, ps.take a, offs⟩) hat']
    unfold atomP
    simp only
    rw [if_pos j1, j2, if_neg (by decide), if_neg (by decide), if_pos rfl]
    exact scoped_gets X h hk (by omega) ih hd hat0
  · have ef : f r = selPc ps (at_ ps r) f [97, 112, 97, 114, 116] := by rw [ef0, pt9 hk]
    rw [ef] at hat ⊢
    have hat0 := hat
    obtain ⟨L, hat'⟩ : ∃ L, AtU us q ((3, [97, 112, 97, 114, 116], 0) :: L) := ⟨_, by unfold selPc at hat; simp only [List.cons_append, ct_W] at hat; exact hat⟩
    obtain ⟨j1, j2, j3⟩ := kind_c (S := ⟨q, ν r, ps.take a, offs⟩) hat'.head
    rw [atom_word (S := ⟨q, ν r, ps.take a, offs⟩) hat']
    unfold atomP
    simp only
    rw [if_pos j1, j2, if_neg (by decide), if_neg (by decide), if_neg (by decide), if_pos rfl]
    exact scoped_gets X h hk (by omega) ih hd hat0
  · have hn := F.none_ (by omega)
    obtain rfl := h.leaf hn
    have ef : ctOf (f a) = [(3, [116, 111, 108, 101, 114, 97, 116, 101, 100], 0), (4, [40], 0), (1, (at_ ps a).text, 0), (4, [41], 0)] := by rw [ef0, pt10 hk, ct_W, ct_M, ct_Q, ct_M, ct_nil]
    rw [ef] at hat ⊢
    have hat' : AtU us q ((3, [116, 111, 108, 101, 114, 97, 116, 101, 100], 0) :: (4, [40], 0) :: (1, (at_ ps a).text, 0) :: (4, [41], 0) :: Z) := hat
    obtain ⟨j1, j2, j3⟩ := kind_c (S := ⟨q, ν a, ps.take a, offs⟩) hat'.head
    rw [atom_word (S := ⟨q, ν a, ps.take a, offs⟩) hat']
    unfold atomP
    simp only
    rw [if_pos j1, j2, if_neg (by decide), if_neg (by decide), if_neg (by decide), if_neg (by decide), if_pos rfl]
    simp only [on]
    rw [mark_at (S := ⟨q + 1, ν a, ps.take a, offs⟩) hat'.tail.head]
    simp only [thenS, on]
    rw [text_at (S := ⟨q + 1 + 1, ν a, ps.take a, offs⟩) hat'.tail.tail.head]
    simp only [bindS, on]
    rw [mark_at (S := ⟨q + 1 + 1 + 1, ν a, ps.take a, offs⟩) hat'.tail.tail.tail.head]
    simp only [on]
    exact put_gets h1 (pd_eq hk rfl (F.nonum (by omega)) hn)
/-- The row of a list's kids: the first one, the others behind a mark each. -/
theorem join_ct {ps : List PD} {p : PD} {f : Nat → List Piece} {m : Bs} {s : Nat × Nat} {rest : List (Nat × Nat)} : ctOf (joinPc ps p [sp, pM m, sp] f ((s :: rest).map Prod.snd)) = ctOf (onePc ps p f s.2) ++ rest.flatMap (fun t => (4, m, 0) :: ctOf (onePc ps p f t.2)) := by
  have go : ∀ rest : List (Nat × Nat), ctOf ((rest.map Prod.snd).flatMap (fun k => [sp, pM m, sp] ++ onePc ps p f k)) = rest.flatMap (fun t => (4, m, 0) :: ctOf (onePc ps p f t.2)) := by
    intro rest
    induction rest with
    | nil => rfl
    | cons t rest ih =>
      rw [List.map_cons, List.flatMap_cons, ct_app, ct_app, ih, ct_sp, ct_M, ct_sp, ct_nil]
      rfl
  rw [List.map_cons, joinPc, ct_app, go]
theorem list_gets {us : List Tk} {ps : List PD} {f : Nat → List Piece} {ν : Nat → Nat} (X : Ctx ps f ν) {a r : Nat} (h : Sub ps a r) (ih : ∀ k ∈ (at_ ps r).kids, ∀ a, Sub ps a k → PJ us ps f ν a k) {d : Nat} (hd : ν r + d = 32) :
    ((at_ ps r).kind = 4 → ∀ q Z offs, nx [38, 38] Z → AtU us q (ctOf (f r) ++ Z) → Gets ps (conjP us (lowL us d) ⟨q, ν r, ps.take a, offs⟩) (q + (ctOf (f r)).length) (ν r) r) ∧
    ((at_ ps r).kind = 5 → ∀ q Z offs, nx [38, 38] Z → nx [124, 124] Z → AtU us q (ctOf (f r) ++ Z) → Gets ps (exprP us (lowL us d) ⟨q, ν r, ps.take a, offs⟩) (q + (ctOf (f r)).length) (ν r) r) := by
  obtain ⟨h1, _⟩ := h.kids
  have F := X.hf.fit r h1
  have hshort := X.short
  cases h with
  | mk _ _ segs _ h2 h3 h4 =>
    have hr0 : (at_ ps r).kind = 4 ∨ (at_ ps r).kind = 5 → rnd (at_ ps r).kind = 0 := fun e => by unfold rnd; rw [if_neg (by omega)]
    have hkid : ∀ t ∈ segs, (at_ ps r).kind = 4 ∨ (at_ ps r).kind = 5 → PJ us ps f ν t.1 t.2 ∧ condK (at_ ps t.2).kind ∧ ν t.2 = ν r + (if brB (at_ ps r).kind (at_ ps t.2).kind then 1 else 0) ∧ ν t.2 ≤ 32 := fun t ht e => by
      have hm : t.2 ∈ (at_ ps r).kids := by rw [h2]; exact List.mem_map_of_mem ht
      have hv := X.nu r h1 t.2 hm
      rw [hr0 e, Nat.add_zero] at hv
      exact ⟨ih t.2 hm t.1 (h4 t ht), F.conds (by omega) t.2 hm, hv, X.le t.2 (h4 t ht).kids.1⟩
    have hlen : (at_ ps r).kind = 4 ∨ (at_ ps r).kind = 5 → 2 ≤ segs.length := fun e => by have := F.more e; rw [h2, List.length_map] at this; exact this
    have hcv : segs.length ≤ r := by
      have : ∀ (ss : List (Nat × Nat)) (a : Nat), (∀ s ∈ ss, Sub ps s.1 s.2) → Cvr a ss r → ss.length + a ≤ r := by
        intro ss
        induction ss with
        | nil => intro a _ h; simp only [Cvr] at h; simp; omega
        | cons s ss ih2 =>
          intro a hs h
          have h5 := (hs s List.mem_cons_self).le
          have h6 := ih2 (s.2 + 1) (fun t ht => hs t (List.mem_cons_of_mem _ ht)) h.2
          have := h.1
          simp only [List.length_cons]; omega
      have := this segs a h4 h3
      omega
    constructor
    · intro hk q Z offs hz hat
      cases segs with
      | nil => have := hlen (.inl hk); simp at this
      | cons s rest =>
        have h2l := hlen (.inl hk)
        simp only [List.length_cons] at h2l hcv
        have ef : ctOf (f r) = ctOf (onePc ps (at_ ps r) f s.2) ++ rest.flatMap (fun t => (4, [38, 38], 0) :: ctOf (onePc ps (at_ ps r) f t.2)) := by rw [X.hf.eq r h1, pt4 hk, h2]; exact join_ct
        rw [ef] at hat ⊢
        rw [List.append_assoc] at hat
        have := list_run (ps := ps) (us := us) (m := [38, 38]) (kind := 4) (one := unitP us (lowL us d)) (c := ν r) (g := fun k => ctOf (onePc ps (at_ ps r) f k)) (NX := fun _ => True) (fun _ => trivial) (offs := offs) h1 (by omega) (by omega) h3 trivial hz hat
          (pd_eq hk (F.notext (by omega)) (F.nonum (by omega)) (by rw [h2]; rfl)).symm (fun t ht q Z offs _ hat => by
            obtain ⟨p1, p2, p3, p4⟩ := hkid t ht (.inl hk)
            exact kid_unit p1 (.inr hk) p2 p3 p4 hd hat)
        rw [List.length_append, ← Nat.add_assoc]
        exact this
    · intro hk q Z offs hz hz2 hat
      cases segs with
      | nil => have := hlen (.inr hk); simp at this
      | cons s rest =>
        have h2l := hlen (.inr hk)
        simp only [List.length_cons] at h2l hcv
        have ef : ctOf (f r) = ctOf (onePc ps (at_ ps r) f s.2) ++ rest.flatMap (fun t => (4, [124, 124], 0) :: ctOf (onePc ps (at_ ps r) f t.2)) := by rw [X.hf.eq r h1, pt5 hk, h2]; exact join_ct
        rw [ef] at hat ⊢
        rw [List.append_assoc] at hat
        have := list_run (ps := ps) (us := us) (m := [124, 124]) (kind := 5) (one := conjP us (lowL us d)) (c := ν r) (g := fun k => ctOf (onePc ps (at_ ps r) f k)) (NX := nx [38, 38]) (fun _ => nx_cons (by decide)) (offs := offs) h1 (by omega) (by omega) h3 hz hz2 hat
          (pd_eq hk (F.notext (by omega)) (F.nonum (by omega)) (by rw [h2]; rfl)).symm (fun t ht q Z offs hz hat => by
            obtain ⟨p1, p2, p3, p4⟩ := hkid t ht (.inr hk)
            exact kid_conj p1 hk p2 p3 p4 hd hz hat)
        rw [List.length_append, ← Nat.add_assoc]
        exact this
theorem all_gets {us : List Tk} {ps : List PD} {f : Nat → List Piece} {ν : Nat → Nat} (X : Ctx ps f ν) : ∀ (r a : Nat), Sub ps a r → PJ us ps f ν a r := by
  intro r
  induction r using Nat.strongRecOn with
  | _ r ihr =>
    intro a h
    have ih : ∀ k ∈ (at_ ps r).kids, ∀ a, Sub ps a k → PJ us ps f ν a k := fun k hk a hs => ihr k (h.kids.2 k hk) a hs
    exact ⟨fun ht q Z offs d hd hat => term_gets X h ih ht hd hat, fun hc n4 n5 q Z offs d hd hat => unit_gets X h ih hc n4 n5 hd hat, fun hk q Z offs d hd hz hat => (list_gets X h ih hd).1 hk q Z offs hz hat,
      fun hk q Z offs d hd hz hz2 hat => (list_gets X h ih hd).2 hk q Z offs hz hz2 hat⟩
/-- A tree's text reads as that tree. -/
theorem text_reads {ps : List PD} {f : Nat → List Piece} {ν : Nat → Nat} (X : Ctx ps f ν) {r : Nat} (h : Sub ps 0 r) (hr : r + 1 = ps.length) (hc : condK (at_ ps r).kind) (h0 : ν r = 0) (hl : (bytesOf (f r)).length ≤ 4096) : ∃ offs, parseL (bytesOf (f r)) = .ok (ps, offs) := by
  obtain ⟨us, hs, hu⟩ := tree_scan X.hf h hl
  have hat : AtU us 0 (ctOf (f r) ++ [(0, [], 0)]) := hu
  obtain ⟨o, ho⟩ := (all_gets (us := us) X r 0 h).expr' hc (q := 0) (offs := []) (d := 32) (by omega) (nx_cons (by decide)) (nx_cons (by decide)) hat
  rw [h0] at ho
  have hx : (lv us 32).expr ⟨0, 0, [], []⟩ = .ok (r, ⟨0 + (ctOf (f r)).length, 0, ps.take (r + 1), o⟩) := ho
  have hend : (pk us ⟨0 + (ctOf (f r)).length, 0, ps.take (r + 1), o⟩).kind = 0 := (kind_c (S := ⟨0 + (ctOf (f r)).length, 0, ps.take (r + 1), o⟩) hat.skip.head).1
  have hshort := X.short
  have htk : ps.take (r + 1) = ps := List.take_of_length_le (by omega)
  unfold parseL treeOf
  rw [hs]
  simp only
  rw [hx]
  simp only
  rw [if_pos hend, htk, if_neg (by omega)]
  exact ⟨_, rfl⟩

end Go.Proofs.YtghhnnbbjlipcaaGreatDoor.X
