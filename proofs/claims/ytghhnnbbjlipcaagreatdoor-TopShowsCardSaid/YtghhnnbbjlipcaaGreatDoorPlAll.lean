/-
  Plain law: the parts come in postorder, each with the kids of its kind, each at a token with which it may begin.
  Plain law: tokens one behind the other within other bytes; a source within another one; pieces put together.
  Plain law of ParseJoins: the trees of sources that are put together.
  Plain law of ParseJoins: what the sources read as that are put together.
-/
import Derived.Test.YtghhnnbbjlipcaaGreatDoorParM
import Derived.Test.YtghhnnbbjlipcaaGreatDoorLexEnd
import Derived.Test.YtghhnnbbjlipcaaGreatDoorLexPlain
import Derived.Test.YtghhnnbbjlipcaaGreatDoorParT
import Derived.Lib.AtoiAllCases
set_option linter.unusedVariables false
set_option linter.unusedSimpArgs false
namespace Go.Proofs.YtghhnnbbjlipcaaGreatDoor.X
/-- So many kids has a part of this kind. -/
def shapeB (kind : Int) (n : Nat) : Bool :=
  if kind = 3 ∨ kind = 8 ∨ kind = 9 ∨ kind = 19 ∨ kind = 20 then n == 1 else if kind = 4 ∨ kind = 5 then decide (2 ≤ n) else if kind = 6 ∨ kind = 7 then n == 2 else if kind = 13 then decide (n ≤ 64) else n == 0
def fitsP (free : List Nat) (p : PD) : Prop := p.kids.length ≤ free.length ∧ free.drop (free.length - p.kids.length) = p.kids ∧ p.text.length ≤ 127 ∧ shapeB p.kind p.kids.length = true
instance (free : List Nat) (p : PD) : Decidable (fitsP free p) := by unfold fitsP; infer_instance
/-- The parts that are still free, behind this one. -/
def stepF (free : List Nat) (i : Nat) (p : PD) : Option (List Nat) := if fitsP free p then some (free.take (free.length - p.kids.length) ++ [i]) else none
def runF : List Nat → Nat → List PD → Option (List Nat)
  | free, _, [] => some free
  | free, i, p :: ps => match stepF free i p with
    | none => none
    | some f => runF f (i + 1) ps

end Go.Proofs.YtghhnnbbjlipcaaGreatDoor.X
set_option linter.unusedVariables false
set_option linter.unusedSimpArgs false
namespace Go.Proofs.YtghhnnbbjlipcaaGreatDoor.X
/-- From i to j just these tokens stand. -/
def Run (l : Bs) (i j : Nat) (ts : List Tk) : Prop := ∀ rest, Chain l j rest → Chain l i (ts ++ rest)
theorem chain_from {l : Bs} {i j : Nat} {ts : List Tk} (h : Chain l j ts) (hi : i ≤ l.length) (hs : skipN l i = skipN l j) : Chain l i ts := by
  cases h with
  | fin _ hj hs' => exact .fin i hi (hs.trans hs')
  | cons _ t ts hj ht hk ha hl he hc => exact .cons i t ts hi (by rw [hs]; exact ht) hk (by rw [hs]; exact ha) hl he hc
theorem Run.gap {u g v : Bs} (hg : Closed g) : Run (u ++ (g ++ v)) u.length (u.length + g.length) [] := fun r hr => by
  refine chain_from hr (by rw [List.length_append]; omega) ?_
  unfold skipN
  rw [List.drop_left, hg]
  have e : (u ++ (g ++ v)).drop (u.length + g.length) = v := by rw [← List.append_assoc, ← List.length_append, List.drop_left]
  rw [e]; omega
theorem Run.tok {u o v : Bs} {t : Tk} (h : tokAt (o ++ v) 0 = .ok t) (hk : ¬ t.kind = 0) (he : t.end_ = o.length) : Run (u ++ (o ++ v)) u.length (u.length + o.length) [shT u.length t] := fun r hr => by
  have hg : gapN false (o ++ v) = 0 := by have := tok_no_gap h hk []; rwa [List.append_nil] at this
  obtain ⟨k1, k2, k3⟩ := tok_own h hk
  have hs : skipN (u ++ (o ++ v)) u.length = u.length := by unfold skipN; rw [List.drop_left, hg]; rfl
  refine .cons _ _ _ (by rw [List.length_append]; omega) ?_ ?_ ?_ ?_ ?_ ?_
  · rw [hs, tokAt_shift, h]; rfl
  · exact hk
  · rw [hs]; simp [shT, k1]
  · simp only [shT]; omega
  · simp only [shT, List.length_append] at k3 ⊢; omega
  · simp only [shT, he]; rw [Nat.add_comm]; exact hr
theorem gapN_line (v : Bs) : ∀ (x : Bs) (b : Bool), gapN b x = x.length → gapN b (x ++ 10 :: v) = x.length + 1 + gapN false v
  | [], true, _ => by simp [gapN]; omega
  | [], false, _ => by simp [gapN, blankB]; omega
  | c :: x, true, h => by
    simp only [List.cons_append, gapN, List.length_cons] at h ⊢
    split
    · rename_i c1; rw [if_pos c1] at h; rw [gapN_line v x false (by omega)]; omega
    · rename_i c1; rw [if_neg c1] at h; rw [gapN_line v x true (by omega)]; omega
  | c :: x, false, h => by
    simp only [List.cons_append, gapN, List.length_cons] at h ⊢
    split
    · rename_i c1; rw [if_pos c1] at h; rw [gapN_line v x false (by omega)]; omega
    rename_i c1
    rw [if_neg c1] at h
    split
    · rename_i c2; rw [if_pos c2] at h; rw [gapN_line v x true (by omega)]; omega
    · rename_i c2; rw [if_neg c2] at h; omega
/-- A source's tokens, the source within other bytes, a line's end behind it. -/
theorem Run.src {u f v : Bs} {ts : List Tk} {i : Nat} (h : Chain f i ts) : Run (u ++ (f ++ 10 :: v)) (u.length + i) (u.length + (f.length + 1)) (ts.dropLast.map (shT u.length)) := by
  induction h with
  | fin i hi hs =>
    intro r hr
    simp only [List.dropLast_singleton, List.map_nil, List.nil_append]
    refine chain_from hr (by simp only [List.length_append, List.length_cons]; omega) ?_
    have e1 : (u ++ (f ++ 10 :: v)).drop (u.length + i) = f.drop i ++ 10 :: v := by
      rw [List.drop_append, List.drop_eq_nil_of_le (by omega), List.nil_append, Nat.add_sub_cancel_left, List.drop_append_of_le_length hi]
    have e2 : (u ++ (f ++ 10 :: v)).drop (u.length + (f.length + 1)) = v := by
      rw [List.drop_append, List.drop_eq_nil_of_le (by omega), List.nil_append, Nat.add_sub_cancel_left, List.drop_append, List.drop_eq_nil_of_le (by omega), List.nil_append, Nat.add_sub_cancel_left]; rfl
    unfold skipN at hs ⊢
    rw [e1, e2, gapN_line v _ false (by rw [List.length_drop]; omega), List.length_drop]
    omega
  | cons i t ts hi ht hk ha hl he hc ih =>
    intro r hr
    have hsg := skipN_ge f i
    have hsl : skipN f i < f.length := by omega
    have hcn : ts ≠ [] := by cases hc <;> simp
    rw [List.dropLast_cons_of_ne_nil hcn, List.map_cons, List.cons_append]
    have hs : skipN (u ++ (f ++ 10 :: v)) (u.length + i) = u.length + skipN f i := by
      have h1 := skipN_append (10 :: v) hi hsl
      unfold skipN at h1 ⊢
      rw [List.drop_append, List.drop_eq_nil_of_le (by omega), List.nil_append, Nat.add_sub_cancel_left]
      omega
    have hne : f.drop (skipN f i) ≠ [] := by
      intro e
      have := congrArg List.length e
      rw [List.length_drop] at this
      simp at this; omega
    have ht0 : tokAt (f.drop (skipN f i)) 0 ≠ .error (112, 0) := by
      intro e
      rw [tokAt_drop f _ (by omega), e] at ht
      cases ht
    have htk : tokAt (u ++ (f ++ 10 :: v)) (u.length + skipN f i) = .ok (shT u.length t) := by
      have e1 : u ++ (f ++ 10 :: v) = (u ++ f.take (skipN f i)) ++ (f.drop (skipN f i) ++ 10 :: v) := by
        rw [List.append_assoc, ← List.append_assoc (f.take _), List.take_append_drop]
      have e2 : u.length + skipN f i = (u ++ f.take (skipN f i)).length := by rw [List.length_append, List.length_take, Nat.min_eq_left (by omega)]
      rw [e1, e2, tokAt_shift, tokAt_ext hne rfl ht0]
      rw [tokAt_drop f _ (by omega)] at ht
      cases hx : tokAt (f.drop (skipN f i)) 0 with
      | error g => rw [hx] at ht; cases ht
      | ok t0 =>
        rw [hx] at ht
        injection ht with ht
        subst ht
        simp only [shR, shT, List.length_append, List.length_take]
        congr 2 <;> omega
    refine .cons _ _ _ (by simp only [List.length_append, List.length_cons]; omega) (by rw [hs]; exact htk) hk (by rw [hs]; simp [shT]; omega) (by simp only [shT]; omega) (by simp only [shT, List.length_append, List.length_cons]; omega) ?_
    have := ih r hr
    rw [Nat.add_comm] at this
    exact this
/-- What a source is put together from: a token's bytes, a gap, a source with a line's end. -/
inductive Piece where
  | tok (o : Bs) (t : Tk)
  | gap (g : Bs)
  | src (f : Bs) (ts : List Tk)
def Piece.bytes : Piece → Bs
  | .tok o _ => o
  | .gap g => g
  | .src f _ => f ++ [10]
def Piece.toks : Piece → List Tk
  | .tok _ t => [t]
  | .gap _ => []
  | .src _ ts => ts.dropLast
def bytesOf (ps : List Piece) : Bs := ps.flatMap Piece.bytes
def toksOf (ps : List Piece) : List Tk := ps.flatMap Piece.toks
/-- A piece ahead of these bytes. -/
def Piece.fits (v : Bs) : Piece → Prop
  | .tok o t => tokAt (o ++ v) 0 = .ok t ∧ ¬ t.kind = 0 ∧ t.end_ = o.length
  | .gap g => Closed g
  | .src f ts => Chain f 0 ts
def fitsAll : List Piece → Prop
  | [] => True
  | p :: ps => p.fits (bytesOf ps) ∧ fitsAll ps
/-- A token's content. -/
def cont (t : Tk) : Int × Bs × Int := (t.kind, t.text, t.num)
theorem cont_sh (k : Nat) (ts : List Tk) : (ts.map (shT k)).map cont = ts.map cont := by rw [List.map_map]; rfl
theorem pieces_chain : ∀ (ps : List Piece) (u : Bs), fitsAll ps → ∃ ts, Chain (u ++ bytesOf ps) u.length ts ∧ ts.map cont = (toksOf ps).map cont ++ [(0, [], 0)]
  | [], u, _ => by
    refine ⟨[⟨0, [], 0, (u ++ bytesOf []).length, (u ++ bytesOf []).length⟩], .fin _ (by simp [bytesOf]) ?_, rfl⟩
    unfold skipN
    simp [bytesOf, gapN]
  | p :: ps, u, h => by
    obtain ⟨h1, h2⟩ := h
    obtain ⟨ts, k1, k2⟩ := pieces_chain ps (u ++ p.bytes) h2
    have e : u ++ bytesOf (p :: ps) = u ++ (p.bytes ++ bytesOf ps) := by simp [bytesOf]
    rw [List.append_assoc, List.length_append] at k1
    rw [e]
    have et : toksOf (p :: ps) = p.toks ++ toksOf ps := by simp [toksOf]
    rw [et, List.map_append, List.append_assoc, ← k2]
    cases p with
    | tok o t => exact ⟨_, Run.tok h1.1 h1.2.1 h1.2.2 _ k1, by simp [Piece.toks, cont, shT]⟩
    | gap g => exact ⟨_, Run.gap h1 _ k1, by simp [Piece.toks]⟩
    | src f fs =>
      have hr := Run.src (u := u) (v := bytesOf ps) h1
      have e2 : (f ++ [10]) ++ bytesOf ps = f ++ 10 :: bytesOf ps := by simp
      simp only [Piece.bytes, List.length_append, List.length_cons, List.length_nil] at k1 ⊢
      rw [e2] at k1 ⊢
      refine ⟨_, hr _ (by simpa using k1), ?_⟩
      rw [List.map_append, cont_sh]; rfl
/-- The tokens of what is put together. -/
theorem pieces_scan {ps : List Piece} (h : fitsAll ps) (hl : (bytesOf ps).length ≤ 4096) : ∃ ts, scanL (bytesOf ps) = (ts, none) ∧ ts.map cont = (toksOf ps).map cont ++ [(0, [], 0)] := by
  obtain ⟨ts, h1, h2⟩ := pieces_chain ps [] h
  exact ⟨ts, chain_prefix hl h1, h2⟩

/-! ### Single tokens -/
/-- A mark of one byte that no other begins with. -/
theorem mark1 {c : UInt8} (hc : c = 40 ∨ c = 41 ∨ c = 91 ∨ c = 93 ∨ c = 123 ∨ c = 125 ∨ c = 44 ∨ c = 46) (v : Bs) : tokAt ([c] ++ v) 0 = .ok ⟨4, [c], 0, 0, 1⟩ := by
  rw [List.singleton_append, tokAt0]
  rcases hc with rfl | rfl | rfl | rfl | rfl | rfl | rfl | rfl
  all_goals
    rw [if_neg (by decide), if_neg (by simp [digB]), if_neg (by decide)]
    simp [marksL, findMark, List.isPrefixOf]
/-- A mark of two bytes. -/
theorem mark2 {c d : UInt8} (hc : (c = 38 ∧ d = 38) ∨ (c = 124 ∧ d = 124) ∨ (c = 61 ∧ d = 61) ∨ (c = 33 ∧ d = 61) ∨ (c = 60 ∧ d = 61) ∨ (c = 62 ∧ d = 61)) (v : Bs) : tokAt ([c, d] ++ v) 0 = .ok ⟨4, [c, d], 0, 0, 2⟩ := by
  have e : [c, d] ++ v = c :: d :: v := rfl
  rw [e, tokAt0]
  rcases hc with ⟨rfl, rfl⟩ | ⟨rfl, rfl⟩ | ⟨rfl, rfl⟩ | ⟨rfl, rfl⟩ | ⟨rfl, rfl⟩ | ⟨rfl, rfl⟩
  all_goals
    rw [if_neg (by decide), if_neg (by simp [digB]), if_neg (by decide)]
    simp [marksL, findMark, List.isPrefixOf]
/-- A mark that another begins with. -/
theorem mark3 {c : UInt8} (hc : c = 33 ∨ c = 60 ∨ c = 62) (v : Bs) (hv : v.head? ≠ some 61) : tokAt ([c] ++ v) 0 = .ok ⟨4, [c], 0, 0, 1⟩ := by
  rw [List.singleton_append, tokAt0]
  have hp : [(61 : UInt8)].isPrefixOf v = false := by
    cases v with
    | nil => rfl
    | cons d v => simp at hv; simp [List.isPrefixOf]; exact fun e => hv e.symm
  rcases hc with rfl | rfl | rfl
  all_goals
    rw [if_neg (by decide), if_neg (by simp [digB]), if_neg (by decide)]
    cases v with
    | nil => simp [marksL, findMark, List.isPrefixOf]
    | cons d v => simp [List.isPrefixOf] at hp; simp [marksL, findMark, List.isPrefixOf, hp]
/-- No letter, digit or underline stands at the head. -/
def stopH : Bs → Bool
  | [] => true
  | c :: _ => !wordB c
theorem run_stop {o v : Bs} (hv : stopH v = true) (ho : o.all wordB = true) : (o ++ v).takeWhile wordB = o := by
  induction o with
  | nil =>
    cases v with
    | nil => rfl
    | cons c v => simp only [List.nil_append, List.takeWhile_cons]; simp only [stopH, Bool.not_eq_true'] at hv; rw [hv]; rfl
  | cons c o ih =>
    simp only [List.all_cons, Bool.and_eq_true] at ho
    simp only [List.cons_append, List.takeWhile_cons, ho.1, if_true]
    rw [ih ho.2]
/-- A word. -/
theorem word_tok {c : UInt8} {o v : Bs} (hc : wordB c = true) (hd : digB c = false) (ho : o.all wordB = true) (hv : stopH v = true) : tokAt ((c :: o) ++ v) 0 = .ok ⟨3, c :: o, 0, 0, (c :: o).length⟩ := by
  have h1 : ¬ c = 34 := by rintro rfl; exact absurd hc (by decide)
  have h2 : (c == 45) = false := by rw [beq_eq_false_iff_ne]; rintro rfl; exact absurd hc (by decide)
  rw [List.cons_append, tokAt0, if_neg h1, hd, h2, if_neg (by simp), if_pos hc]
  simp only [runL, run_stop hv ho]
  simp
/-- A number. -/
theorem num_tok {c : UInt8} {o v : Bs} {n : Int} (hc : digB c = true ∨ (c = 45 ∧ headD o = true)) (ho : o.all wordB = true) (hv : stopH v = true) (hn : numOf (c :: o) = some n) : tokAt ((c :: o) ++ v) 0 = .ok ⟨2, [], n, 0, (c :: o).length⟩ := by
  have h1 : ¬ c = 34 := by
    rcases hc with h | h
    · rintro rfl; exact absurd h (by decide)
    · rw [h.1]; decide
  have h2 : (digB c || (c == 45 && headD (o ++ v))) = true := by
    rcases hc with h | ⟨rfl, h⟩
    · rw [h]; rfl
    · cases o with
      | nil => exact absurd h (by decide)
      | cons d o => simp only [List.cons_append, headD] at h ⊢; rw [h]; rfl
  rw [List.cons_append, tokAt0, if_neg h1, if_pos h2]
  simp only [runL, run_stop hv ho, hn]
  simp

end Go.Proofs.YtghhnnbbjlipcaaGreatDoor.X
set_option linter.unusedVariables false
set_option linter.unusedSimpArgs false
namespace Go.Proofs.YtghhnnbbjlipcaaGreatDoor.X
theorem isT_c {us : List Tk} {S : PS} {c : Int × Bs × Int} (h : cont (us.getD S.pos endT) = c) (k : Int) (m : Bs) : isT us S k m = (c.1 == k && c.2.1 == m) := by rw [← h]; rfl
theorem open_at {us : List Tk} {S : PS} {m : Bs} {n : Int} (h : cont (us.getD S.pos endT) = (4, m, n)) (hn : S.nest ≠ 32) : openP us m S = .ok ⟨S.pos + 1, S.nest + 1, S.parts, S.offs⟩ := by
  unfold openP
  rw [isT_c h, if_pos (by simp), if_neg hn]
theorem mark_at {us : List Tk} {S : PS} {m : Bs} {n : Int} (h : cont (us.getD S.pos endT) = (4, m, n)) : markP us m S = .ok (on S) := by
  unfold markP
  rw [isT_c h, if_pos (by simp)]
theorem shut_at {us : List Tk} {S : PS} {n : Int} (h : cont (us.getD S.pos endT) = (4, [41], n)) : shutP us S = .ok ⟨S.pos + 1, S.nest - 1, S.parts, S.offs⟩ := by
  unfold shutP
  rw [mark_at h]; rfl
theorem text_at {us : List Tk} {S : PS} {s : Bs} {n : Int} (h : cont (us.getD S.pos endT) = (1, s, n)) : textP us S = .ok (s, on S) := by
  unfold cont at h
  injection h with h1 h
  injection h with h2 h3
  unfold textP pk
  rw [h1, h2, if_pos rfl]
theorem list_one {ts : List Tk} {b : Bs} {kind : Int} {one : PS → PR Nat} {S S1 : PS} {i : Nat} (h : one S = .ok (i, S1)) (hb : isT ts S1 4 b = false) : listP ts b kind one S = .ok (i, S1) := by
  unfold listP
  rw [h]
  simp only
  rw [show (5000 : Nat) = 4999 + 1 from rfl, listLoop, if_neg (by rw [hb]; decide)]
  rfl

/-! ### Rows of contents -/
theorem cont_getD (us : List Tk) (i : Nat) : cont (us.getD i endT) = (us.map cont).getD i (0, [], 0) := by
  rw [List.getD_eq_getElem?_getD, List.getD_eq_getElem?_getD, List.getElem?_map]
  cases us[i]? <;> rfl
abbrev Ct := Int × Bs × Int
theorem kind_c {us : List Tk} {S : PS} {c : Int × Bs × Int} (h : cont (us.getD S.pos endT) = c) : (pk us S).kind = c.1 ∧ (pk us S).text = c.2.1 ∧ (pk us S).num = c.2.2 := by subst h; exact ⟨rfl, rfl, rfl⟩

end Go.Proofs.YtghhnnbbjlipcaaGreatDoor.X
set_option linter.unusedVariables false
set_option linter.unusedSimpArgs false
namespace Go.Proofs.YtghhnnbbjlipcaaGreatDoor.X
theorem gap_sp : Closed [32] := fun y => by simp [gapN, blankB]; omega
abbrev pM (m : Bs) : Piece := .tok m ⟨4, m, 0, 0, m.length⟩
abbrev pW (m : Bs) : Piece := .tok m ⟨3, m, 0, 0, m.length⟩
theorem fit1 {c : UInt8} (hc : c = 40 ∨ c = 41 ∨ c = 91 ∨ c = 93 ∨ c = 123 ∨ c = 125 ∨ c = 44 ∨ c = 46) (v : Bs) : (pM [c]).fits v := ⟨mark1 hc v, (by decide : ¬ (4 : Int) = 0), rfl⟩
theorem fit2 {c d : UInt8} (hc : (c = 38 ∧ d = 38) ∨ (c = 124 ∧ d = 124) ∨ (c = 61 ∧ d = 61) ∨ (c = 33 ∧ d = 61) ∨ (c = 60 ∧ d = 61) ∨ (c = 62 ∧ d = 61)) (v : Bs) : (pM [c, d]).fits v := ⟨mark2 hc v, (by decide : ¬ (4 : Int) = 0), rfl⟩
theorem fit3 {c : UInt8} (hc : c = 33 ∨ c = 60 ∨ c = 62) {v : Bs} (hv : v.head? ≠ some 61) : (pM [c]).fits v := ⟨mark3 hc v hv, (by decide : ¬ (4 : Int) = 0), rfl⟩
theorem fitW {c : UInt8} {o v : Bs} (hc : wordB c = true) (hd : digB c = false) (ho : o.all wordB = true) (hv : stopH v = true) : (pW (c :: o)).fits v := ⟨word_tok hc hd ho hv, (by decide : ¬ (3 : Int) = 0), rfl⟩
theorem fitQ {key : Bs} (hk : key.length ≤ 127) (v : Bs) : (Piece.tok (quoteL key) ⟨1, key, 0, 0, (quoteL key).length⟩).fits v := ⟨by rw [quote_tok, if_neg (by omega)], (by decide : ¬ (1 : Int) = 0), rfl⟩

end Go.Proofs.YtghhnnbbjlipcaaGreatDoor.X
