/-
  Plain law: tokens one behind the other within other bytes; a source within another one; pieces put together.
  Plain law of ParseJoins: the trees of sources that are put together.
  Plain law of ParseJoins: what the sources read as that are put together.
-/
import Derived.Test.YtghhnnbbjlipcaaDoorLexBk
import Derived.Test.YtghhnnbbjlipcaaDoorPlBlanks
import Derived.Test.YtghhnnbbjlipcaaDoorLexC
set_option linter.unusedVariables false
set_option linter.unusedSimpArgs false
namespace Go.Proofs.YtghhnnbbjlipcaaDoor.X
/-- From i to j just these tokens stand. -/
def Run (l : Bs) (i j : Nat) (ts : List Tk) : Prop := ∀ rest, Chain l j rest → Chain l i (ts ++ rest)
theorem Run.refl (l : Bs) (i : Nat) : Run l i i [] := fun _ h => h
theorem Run.trans {l : Bs} {i j k : Nat} {a b : List Tk} (h : Run l i j a) (h2 : Run l j k b) : Run l i k (a ++ b) := fun r hr => by
  rw [List.append_assoc]; exact h _ (h2 _ hr)
theorem chain_from {l : Bs} {i j : Nat} {ts : List Tk} (h : Chain l j ts) (hi : i ≤ l.length) (hs : skipN l i = skipN l j) : Chain l i ts := by
  cases h with
  | fin _ hj hs' => exact .fin i hi (hs.trans hs')
  | cons _ t ts hj ht hk ha hl he hc => exact .cons i t ts hi (by rw [hs]; exact ht) hk (by rw [hs]; exact ha) hl he hc
theorem Run.gap {u g v : Bs} (hg : Closed g) : Run (u ++ (g ++ v)) u.length (u.length + g.length) [] := fun r hr => by
  refine chain_from hr (by rw [List.length_append]; omega) ?_
  unfold skipN
  rw [List.drop_left, hg]
  have e : (u ++ (g ++ v)).drop (u.length + g.length) = v := by rw [← List.append_assoc, ← List.length_append, List.drop_left]
  rw [e]; omega
theorem Run.tok {u o v : Bs} {t : Tk} (h : tokAt (o ++ v) 0 = .ok t) (hk : ¬ t.kind = 0) (he : t.end_ = o.length) : Run (u ++ (o ++ v)) u.length (u.length + o.length) [shT u.length t] := fun r hr => by
  have hg : gapN false (o ++ v) = 0 := by have := tok_no_gap h hk []; rwa [List.append_nil] at this
  obtain ⟨k1, k2, k3⟩ := tok_own h hk
  have hs : skipN (u ++ (o ++ v)) u.length = u.length := by unfold skipN; rw [List.drop_left, hg]; rfl
  refine .cons _ _ _ (by rw [List.length_append]; omega) ?_ ?_ ?_ ?_ ?_ ?_
  · rw [hs, tokAt_shift, h]; rfl
  · exact hk
  · rw [hs]; simp [shT, k1]
  · simp only [shT]; omega
  · simp only [shT, List.length_append] at k3 ⊢; omega
  · simp only [shT, he]; rw [Nat.add_comm]; exact hr
theorem gapN_line (v : Bs) : ∀ (x : Bs) (b : Bool), gapN b x = x.length → gapN b (x ++ 10 :: v) = x.length + 1 + gapN false v
  | [], true, _ => by simp [gapN]; omega
  | [], false, _ => by simp [gapN, blankB]; omega
  | c :: x, true, h => by
    simp only [List.cons_append, gapN, List.length_cons] at h ⊢
    split
    · rename_i c1; rw [if_pos c1] at h; rw [gapN_line v x false (by omega)]; omega
    · rename_i c1; rw [if_neg c1] at h; rw [gapN_line v x true (by omega)]; omega
  | c :: x, false, h => by
    simp only [List.cons_append, gapN, List.length_cons] at h ⊢
    split
    · rename_i c1; rw [if_pos c1] at h; rw [gapN_line v x false (by omega)]; omega
    rename_i c1
    rw [if_neg c1] at h
    split
    · rename_i c2; rw [if_pos c2] at h; rw [gapN_line v x true (by omega)]; omega
    · rename_i c2; rw [if_neg c2] at h; omega
/-- A source's tokens, the source within other bytes, a line's end behind it. -/
theorem Run.src {u f v : Bs} {ts : List Tk} {i : Nat} (h : Chain f i ts) : Run (u ++ (f ++ 10 :: v)) (u.length + i) (u.length + (f.length + 1)) (ts.dropLast.map (shT u.length)) := by
  induction h with
  | fin i hi hs =>
    intro r hr
    simp only [List.dropLast_singleton, List.map_nil, List.nil_append]
    refine chain_from hr (by simp only [List.length_append, List.length_cons]; omega) ?_
    have e1 : (u ++ (f ++ 10 :: v)).drop (u.length + i) = f.drop i ++ 10 :: v := by
      rw [List.drop_append, List.drop_eq_nil_of_le (by omega), List.nil_append, Nat.add_sub_cancel_left, List.drop_append_of_le_length hi]
    have e2 : (u ++ (f ++ 10 :: v)).drop (u.length + (f.length + 1)) = v := by
      rw [List.drop_append, List.drop_eq_nil_of_le (by omega), List.nil_append, Nat.add_sub_cancel_left, List.drop_append, List.drop_eq_nil_of_le (by omega), List.nil_append, Nat.add_sub_cancel_left]; rfl
    unfold skipN at hs ⊢
    rw [e1, e2, gapN_line v _ false (by rw [List.length_drop]; omega), List.length_drop]
    omega
  | cons i t ts hi ht hk ha hl he hc ih =>
    intro r hr
    have hsg := skipN_ge f i
    have hsl : skipN f i < f.length := by omega
    have hcn : ts ≠ [] := by cases hc <;> simp
    rw [List.dropLast_cons_of_ne_nil hcn, List.map_cons, List.cons_append]
    have hs : skipN (u ++ (f ++ 10 :: v)) (u.length + i) = u.length + skipN f i := by
      have h1 := skipN_append (10 :: v) hi hsl
      unfold skipN at h1 ⊢
      rw [List.drop_append, List.drop_eq_nil_of_le (by omega), List.nil_append, Nat.add_sub_cancel_left]
      omega
    have hne : f.drop (skipN f i) ≠ [] := by
      intro e
      have := congrArg List.length e
      rw [List.length_drop] at this
      simp at this; omega
    have ht0 : tokAt (f.drop (skipN f i)) 0 ≠ .error (112, 0) := by
      intro e
      rw [tokAt_drop f _ (by omega), e] at ht
      cases ht
    have htk : tokAt (u ++ (f ++ 10 :: v)) (u.length + skipN f i) = .ok (shT u.length t) := by
      have e1 : u ++ (f ++ 10 :: v) = (u ++ f.take (skipN f i)) ++ (f.drop (skipN f i) ++ 10 :: v) := by
        rw [List.append_assoc, ← List.append_assoc (f.take _), List.take_append_drop]
      have e2 : u.length + skipN f i = (u ++ f.take (skipN f i)).length := by rw [List.length_append, List.length_take, Nat.min_eq_left (by omega)]
      rw [e1, e2, tokAt_shift, tokAt_ext hne rfl ht0]
      rw [tokAt_drop f _ (by omega)] at ht
      cases hx : tokAt (f.drop (skipN f i)) 0 with
      | error g => rw [hx] at ht; cases ht
      | ok t0 =>
        rw [hx] at ht
        injection ht with ht
        subst ht
        simp only [shR, shT, List.length_append, List.length_take]
        congr 2 <;> omega
    refine .cons _ _ _ (by simp only [List.length_append, List.length_cons]; omega) (by rw [hs]; exact htk) hk (by rw [hs]; simp [shT]; omega) (by simp only [shT]; omega) (by simp only [shT, List.length_append, List.length_cons]; omega) ?_
    have := ih r hr
    rw [Nat.add_comm] at this
    exact this
/-- What a source is put together from: a token's bytes, a gap, a source with a line's end. -/
inductive Piece where
  | tok (o : Bs) (t : Tk)
  | gap (g : Bs)
  | src (f : Bs) (ts : List Tk)
def Piece.bytes : Piece → Bs
  | .tok o _ => o
  | .gap g => g
  | .src f _ => f ++ [10]
def Piece.toks : Piece → List Tk
  | .tok _ t => [t]
  | .gap _ => []
  | .src _ ts => ts.dropLast
def bytesOf (ps : List Piece) : Bs := ps.flatMap Piece.bytes
def toksOf (ps : List Piece) : List Tk := ps.flatMap Piece.toks
/-- A piece ahead of these bytes. -/
def Piece.fits (v : Bs) : Piece → Prop
  | .tok o t => tokAt (o ++ v) 0 = .ok t ∧ ¬ t.kind = 0 ∧ t.end_ = o.length
  | .gap g => Closed g
  | .src f ts => Chain f 0 ts
def fitsAll : List Piece → Prop
  | [] => True
  | p :: ps => p.fits (bytesOf ps) ∧ fitsAll ps
/-- A token's content. -/
def cont (t : Tk) : Int × Bs × Int := (t.kind, t.text, t.num)
theorem cont_sh (k : Nat) (ts : List Tk) : (ts.map (shT k)).map cont = ts.map cont := by rw [List.map_map]; rfl
theorem pieces_chain : ∀ (ps : List Piece) (u : Bs), fitsAll ps → ∃ ts, Chain (u ++ bytesOf ps) u.length ts ∧ ts.map cont = (toksOf ps).map cont ++ [(0, [], 0)]
  | [], u, _ => by
    refine ⟨[⟨0, [], 0, (u ++ bytesOf []).length, (u ++ bytesOf []).length⟩], .fin _ (by simp [bytesOf]) ?_, rfl⟩
    unfold skipN
    simp [bytesOf, gapN]
  | p :: ps, u, h => by
    obtain ⟨h1, h2⟩ := h
    obtain ⟨ts, k1, k2⟩ := pieces_chain ps (u ++ p.bytes) h2
    have e : u ++ bytesOf (p :: ps) = u ++ (p.bytes ++ bytesOf ps) := by simp [bytesOf]
    rw [List.append_assoc, List.length_append] at k1
    rw [e]
    have et : toksOf (p :: ps) = p.toks ++ toksOf ps := by simp [toksOf]
    rw [et, List.map_append, List.append_assoc, ← k2]
    cases p with
    | tok o t => exact ⟨_, Run.tok h1.1 h1.2.1 h1.2.2 _ k1, by simp [Piece.toks, cont, shT]⟩
    | gap g => exact ⟨_, Run.gap h1 _ k1, by simp [Piece.toks]⟩
    | src f fs =>
      have hr := Run.src (u := u) (v := bytesOf ps) h1
      have e2 : (f ++ [10]) ++ bytesOf ps = f ++ 10 :: bytesOf ps := by simp
      simp only [Piece.bytes, List.length_append, List.length_cons, List.length_nil] at k1 ⊢
      rw [e2] at k1 ⊢
      refine ⟨_, hr _ (by simpa using k1), ?_⟩
      rw [List.map_append, cont_sh]; rfl
/-- The tokens of what is put together. -/
theorem pieces_scan {ps : List Piece} (h : fitsAll ps) (hl : (bytesOf ps).length ≤ 4096) : ∃ ts, scanL (bytesOf ps) = (ts, none) ∧ ts.map cont = (toksOf ps).map cont ++ [(0, [], 0)] := by
  obtain ⟨ts, h1, h2⟩ := pieces_chain ps [] h
  exact ⟨ts, chain_prefix hl h1, h2⟩
theorem scan_long {l : Bs} (h : 4096 < l.length) : scanL l = ([], some (110, 4096)) := by unfold scanL prefixL; rw [if_pos h]; rfl

/-! ### Single tokens -/
/-- A mark of one byte that no other begins with. -/
theorem mark1 {c : UInt8} (hc : c = 40 ∨ c = 41 ∨ c = 91 ∨ c = 93 ∨ c = 123 ∨ c = 125 ∨ c = 44 ∨ c = 46) (v : Bs) : tokAt ([c] ++ v) 0 = .ok ⟨4, [c], 0, 0, 1⟩ := by
  rw [List.singleton_append, tokAt0]
  rcases hc with rfl | rfl | rfl | rfl | rfl | rfl | rfl | rfl
  all_goals
    rw [if_neg (by decide), if_neg (by simp [digB]), if_neg (by decide)]
    simp [marksL, findMark, List.isPrefixOf]
/-- A mark of two bytes. -/
theorem mark2 {c d : UInt8} (hc : (c = 38 ∧ d = 38) ∨ (c = 124 ∧ d = 124) ∨ (c = 61 ∧ d = 61) ∨ (c = 33 ∧ d = 61) ∨ (c = 60 ∧ d = 61) ∨ (c = 62 ∧ d = 61)) (v : Bs) : tokAt ([c, d] ++ v) 0 = .ok ⟨4, [c, d], 0, 0, 2⟩ := by
  have e : [c, d] ++ v = c :: d :: v := rfl
  rw [e, tokAt0]
  rcases hc with ⟨rfl, rfl⟩ | ⟨rfl, rfl⟩ | ⟨rfl, rfl⟩ | ⟨rfl, rfl⟩ | ⟨rfl, rfl⟩ | ⟨rfl, rfl⟩
  all_goals
    rw [if_neg (by decide), if_neg (by simp [digB]), if_neg (by decide)]
    simp [marksL, findMark, List.isPrefixOf]
/-- A mark that another begins with. -/
theorem mark3 {c : UInt8} (hc : c = 33 ∨ c = 60 ∨ c = 62) (v : Bs) (hv : v.head? ≠ some 61) : tokAt ([c] ++ v) 0 = .ok ⟨4, [c], 0, 0, 1⟩ := by
  rw [List.singleton_append, tokAt0]
  have hp : [(61 : UInt8)].isPrefixOf v = false := by
    cases v with
    | nil => rfl
    | cons d v => simp at hv; simp [List.isPrefixOf]; exact fun e => hv e.symm
  rcases hc with rfl | rfl | rfl
  all_goals
    rw [if_neg (by decide), if_neg (by simp [digB]), if_neg (by decide)]
    cases v with
    | nil => simp [marksL, findMark, List.isPrefixOf]
    | cons d v => simp [List.isPrefixOf] at hp; simp [marksL, findMark, List.isPrefixOf, hp]
/-- No letter, digit or underline stands at the head. -/
def stopH : Bs → Bool
  | [] => true
  | c :: _ => !wordB c
theorem run_stop {o v : Bs} (hv : stopH v = true) (ho : o.all wordB = true) : (o ++ v).takeWhile wordB = o := by
  induction o with
  | nil =>
    cases v with
    | nil => rfl
    | cons c v => simp only [List.nil_append, List.takeWhile_cons]; simp only [stopH, Bool.not_eq_true'] at hv; rw [hv]; rfl
  | cons c o ih =>
    simp only [List.all_cons, Bool.and_eq_true] at ho
    simp only [List.cons_append, List.takeWhile_cons, ho.1, if_true]
    rw [ih ho.2]
/-- A word. -/
theorem word_tok {c : UInt8} {o v : Bs} (hc : wordB c = true) (hd : digB c = false) (ho : o.all wordB = true) (hv : stopH v = true) : tokAt ((c :: o) ++ v) 0 = .ok ⟨3, c :: o, 0, 0, (c :: o).length⟩ := by
  have h1 : ¬ c = 34 := by rintro rfl; exact absurd hc (by decide)
  have h2 : (c == 45) = false := by rw [beq_eq_false_iff_ne]; rintro rfl; exact absurd hc (by decide)
  rw [List.cons_append, tokAt0, if_neg h1, hd, h2, if_neg (by simp), if_pos hc]
  simp only [runL, run_stop hv ho]
  simp
/-- A number. -/
theorem num_tok {c : UInt8} {o v : Bs} {n : Int} (hc : digB c = true ∨ (c = 45 ∧ headD o = true)) (ho : o.all wordB = true) (hv : stopH v = true) (hn : numOf (c :: o) = some n) : tokAt ((c :: o) ++ v) 0 = .ok ⟨2, [], n, 0, (c :: o).length⟩ := by
  have h1 : ¬ c = 34 := by
    rcases hc with h | h
    · rintro rfl; exact absurd h (by decide)
    · rw [h.1]; decide
  have h2 : (digB c || (c == 45 && headD (o ++ v))) = true := by
    rcases hc with h | ⟨rfl, h⟩
    · rw [h]; rfl
    · cases o with
      | nil => exact absurd h (by decide)
      | cons d o => simp only [List.cons_append, headD] at h ⊢; rw [h]; rfl
  rw [List.cons_append, tokAt0, if_neg h1, if_pos h2]
  simp only [runL, run_stop hv ho, hn]
  simp

end Go.Proofs.YtghhnnbbjlipcaaDoor.X

set_option linter.unusedVariables false
set_option linter.unusedSimpArgs false
namespace Go.Proofs.YtghhnnbbjlipcaaDoor.X
theorem runF_last : ∀ (ps : List PD) (F : List Nat) (x i : Nat) (R : List Nat), runF (F ++ [x]) i ps = some R → R.getLast? = some (if ps.length = 0 then x else i + ps.length - 1)
  | [], F, x, i, R, h => by injection h with h; subst h; simp
  | p :: ps, F, x, i, R, h => by
    simp only [runF, stepF] at h
    split at h
    · cases h
    · rename_i f hf
      split at hf
      · injection hf with hf
        subst hf
        have := runF_last ps _ _ _ _ h
        rw [this]
        simp only [List.length_cons, Nat.add_one_ne_zero, if_false]
        congr 1
        split <;> omega
      · cases hf
/-- A source that reads. -/
structure Src (f : Bs) (ts : List Tk) (ps : List PD) (offs : List Nat) : Prop where
  scan : scanL f = (ts, none)
  tree : treeOf ts = .ok (ps, offs)
theorem src_of {f : Bs} {ps : List PD} {offs : List Nat} (h : parseL f = .ok (ps, offs)) : ∃ ts offs', Src f ts ps offs' := by
  unfold parseL at h
  cases hs : scanL f with
  | mk ts o =>
    cases o with
    | some e => rw [hs] at h; cases h
    | none =>
      rw [hs] at h
      simp only at h
      cases ht : treeOf ts with
      | error e => rw [ht] at h; cases h
      | ok q =>
        obtain ⟨ps', offs'⟩ := q
        rw [ht] at h
        injection h with h
        injection h with h1 h2
        subst h1
        exact ⟨ts, offs', hs, ht⟩
theorem Src.run {f : Bs} {ts : List Tk} {ps : List PD} {offs : List Nat} (h : Src f ts ps offs) : (lv ts 32).expr ⟨0, 0, [], []⟩ = .ok (ps.length - 1, ⟨ts.length - 1, 0, ps, offs⟩) ∧ 0 < ps.length ∧ 0 < ts.length ∧ (ts.getD (ts.length - 1) endT).kind = 0 := by
  obtain ⟨hl, hc⟩ := prefix_chain h.scan
  obtain ⟨h0, he⟩ := chain_last hc
  have hcov := (lv_cov ts 32).expr ⟨0, 0, [], []⟩
  have hbd := (lv_builds (chain_short hc) 32).expr
  have hfr := (lv_fair ts 32).expr
  have ht := h.tree
  unfold treeOf at ht
  cases hx : (lv ts 32).expr ⟨0, 0, [], []⟩ with
  | error e => rw [hx] at ht; cases ht
  | ok q =>
    obtain ⟨i, S⟩ := q
    rw [hx] at ht hcov
    simp only at ht
    have hp : S.pos < ts.length := cov_lt h0 he hcov
    split at ht
    · rename_i hk
      split at ht
      · cases ht
      · injection ht with ht
        injection ht with e1 e2
        have hn := (hfr _ _ _ hx).nest
        obtain ⟨_, new, no, k1, k2, k3, k4, k5⟩ := hbd _ _ _ hx
        simp only [List.nil_append] at k1 k2
        have hr := k4 []
        simp only [List.length_nil, List.nil_append] at hr
        have hpos : S.pos + 1 = ts.length := by
          obtain ⟨us, hts, hu⟩ := chain_toks hc
          have hkk : (ts.getD S.pos endT).kind = 0 := hk
          rcases Nat.lt_or_ge S.pos us.length with h1 | h1
          · exfalso
            refine (hu us[S.pos] (List.getElem_mem h1)).2.2 ?_
            rw [hts, List.getD_eq_getElem?_getD, List.getElem?_append_left h1, List.getElem?_eq_getElem h1] at hkk
            exact hkk
          · have : ts.length = us.length + 1 := by rw [hts]; simp
            omega
        rw [e1] at k1
        rw [← k1] at hr
        have hne : 0 < ps.length := by
          cases ps with
          | nil => simp [runF] at hr
          | cons p ps => simp
        have hi : i = ps.length - 1 := by
          cases ps with
          | nil => simp at hne
          | cons p ps =>
            simp only [runF, stepF] at hr
            split at hr
            · cases hr
            · rename_i f hf
              split at hf
              · injection hf with hf
                subst hf
                have := runF_last ps _ _ _ _ hr
                simp only [List.getLast?_singleton, Option.some.injEq] at this
                rw [this]
                simp only [List.length_cons]
                split <;> omega
              · cases hf
        refine ⟨?_, hne, h0, he⟩
        obtain ⟨p, n, pp, oo⟩ := S
        simp only at hpos hn e1 e2
        rw [hi, ← hpos, hn, e1, e2]
        rfl
    · cases ht
/-- The tokens of this source stand there from p on, but the end; a closing parenthesis behind them. -/
structure Emb (us : List Tk) (p : Nat) (ts : List Tk) : Prop where
  toks : ∀ j, j + 1 < ts.length → cont (us.getD (p + j) endT) = cont (ts.getD j endT)
  shut : cont (us.getD (p + (ts.length - 1)) endT) = (4, [41], 0)
theorem eqT_of {x y : Tk} (h : cont x = cont y) : eqT x y := by
  unfold cont at h
  injection h with h1 h
  injection h with h2 h3
  exact ⟨h1, h2, h3⟩
theorem isT_c {us : List Tk} {S : PS} {c : Int × Bs × Int} (h : cont (us.getD S.pos endT) = c) (k : Int) (m : Bs) : isT us S k m = (c.1 == k && c.2.1 == m) := by rw [← h]; rfl
theorem expr_in {f : Bs} {ts us : List Tk} {ps : List PD} {offs : List Nat} {p : Nat} (h : Src f ts ps offs) (he : Emb us p ts) (Q : List PD) (O : List Nat) {c d : Nat} (hcd : c + d = 32) :
    (lv us d).expr ⟨p, c, Q, O⟩ = .ok (Q.length + (ps.length - 1), ⟨p + (ts.length - 1), c, Q ++ ps.map (shP Q.length), O ++ offs.map (· + p)⟩) ∨ ∃ q, (lv us d).expr ⟨p, c, Q, O⟩ = .error (122, q) := by
  obtain ⟨hx, hn, h0, hk⟩ := h.run
  have hsim := (lv_sim ⟨ts, us, p, Q, O, c⟩ d 0 (by simp only; omega)).expr ⟨0, 0, [], []⟩ rfl
  simp only at hsim
  rw [show d + c = 32 by omega, hx] at hsim
  have e0 : sh ⟨ts, us, p, Q, O, c⟩ ⟨0, 0, [], []⟩ = ⟨p, c, Q, O⟩ := by simp [sh]
  rw [e0] at hsim
  have h2 := hsim.2 ⟨fun j hj => by
      have hj' : j + 1 < ts.length := by simp only at hj; omega
      unfold AtI
      rw [Nat.add_comm j]
      exact eqT_of (he.toks j hj').symm, fun m hm => by
      simp only
      have e1 : isTk (ts.getD (ts.length - 1) endT) 4 m = false := by unfold isTk; rw [hk]; rfl
      have e2 : isTk (us.getD (ts.length - 1 + p) endT) 4 m = false := by
        have := he.shut
        rw [Nat.add_comm] at this
        unfold cont at this
        injection this with a1 a2
        injection a2 with a2 a3
        unfold isTk
        rw [a1, a2]
        rcases hm with rfl | rfl <;> rfl
      rw [e1, e2]⟩
  cases hy : (lv us d).expr ⟨p, c, Q, O⟩ with
  | error e => rw [hy] at h2; obtain ⟨a, b⟩ := e; exact .inr ⟨b, by rw [← h2.2]⟩
  | ok q =>
    obtain ⟨y, T⟩ := q
    rw [hy] at h2
    obtain ⟨rfl, rfl⟩ := h2
    left
    simp only [sh]
    rw [Nat.add_comm (ts.length - 1), Nat.zero_add, Nat.add_comm (ps.length - 1)]
theorem open_at {us : List Tk} {S : PS} {m : Bs} {n : Int} (h : cont (us.getD S.pos endT) = (4, m, n)) (hn : S.nest ≠ 32) : openP us m S = .ok ⟨S.pos + 1, S.nest + 1, S.parts, S.offs⟩ := by
  unfold openP
  rw [isT_c h, if_pos (by simp), if_neg hn]
theorem mark_at {us : List Tk} {S : PS} {m : Bs} {n : Int} (h : cont (us.getD S.pos endT) = (4, m, n)) : markP us m S = .ok (on S) := by
  unfold markP
  rw [isT_c h, if_pos (by simp)]
theorem shut_at {us : List Tk} {S : PS} {n : Int} (h : cont (us.getD S.pos endT) = (4, [41], n)) : shutP us S = .ok ⟨S.pos + 1, S.nest - 1, S.parts, S.offs⟩ := by
  unfold shutP
  rw [mark_at h]; rfl
theorem text_at {us : List Tk} {S : PS} {s : Bs} {n : Int} (h : cont (us.getD S.pos endT) = (1, s, n)) : textP us S = .ok (s, on S) := by
  unfold cont at h
  injection h with h1 h
  injection h with h2 h3
  unfold textP pk
  rw [h1, h2, if_pos rfl]
/-- A source in parentheses as a unit. -/
theorem group_in {f : Bs} {ts us : List Tk} {ps : List PD} {offs : List Nat} {p : Nat} (h : Src f ts ps offs) (ho : cont (us.getD p endT) = (4, [40], 0)) (he : Emb us (p + 1) ts) (Q : List PD) (O : List Nat) {c d : Nat} (hcd : c + 1 + d = 32) :
    unitP us (lv us d) ⟨p, c, Q, O⟩ = .ok (Q.length + (ps.length - 1), ⟨p + 1 + (ts.length - 1) + 1, c, Q ++ ps.map (shP Q.length), O ++ offs.map (· + (p + 1))⟩) ∨ ∃ q, unitP us (lv us d) ⟨p, c, Q, O⟩ = .error (122, q) := by
  unfold unitP
  rw [isT_c (S := ⟨p, c, Q, O⟩) ho, isT_c (S := ⟨p, c, Q, O⟩) ho, if_neg (by decide), if_pos (by decide), open_at (S := ⟨p, c, Q, O⟩) ho (by simp only; omega)]
  simp only [thenS]
  rcases expr_in h he Q O (c := c + 1) (d := d) hcd with hx | ⟨q, hx⟩
  · left
    rw [hx]
    simp only [bindS]
    rw [shut_at (n := 0) he.shut]
    simp
  · right
    rw [hx]
    exact ⟨q, rfl⟩
theorem list_one {ts : List Tk} {b : Bs} {kind : Int} {one : PS → PR Nat} {S S1 : PS} {i : Nat} (h : one S = .ok (i, S1)) (hb : isT ts S1 4 b = false) : listP ts b kind one S = .ok (i, S1) := by
  unfold listP
  rw [h]
  simp only
  rw [show (5000 : Nat) = 4999 + 1 from rfl, listLoop, if_neg (by rw [hb]; decide)]
  rfl
theorem list_two {ts : List Tk} {b : Bs} {kind : Int} {one : PS → PR Nat} {S S1 S2 : PS} {i j : Nat} (h : one S = .ok (i, S1)) (hb : isT ts S1 4 b = true) (h2 : one (on S1) = .ok (j, S2)) (hb2 : isT ts S2 4 b = false) :
    listP ts b kind one S = .ok (S2.parts.length, putS S1.pos ⟨kind, [], 0, [i, j]⟩ S2) := by
  unfold listP
  rw [h]
  simp only
  rw [show (5000 : Nat) = 4998 + 1 + 1 from rfl, listLoop, if_pos hb, h2]
  simp only
  rw [listLoop, if_neg (by rw [hb2]; decide)]
  rfl
theorem list_bad {ts : List Tk} {b : Bs} {kind : Int} {one : PS → PR Nat} {S : PS} {e : PF} (h : one S = .error e) : listP ts b kind one S = .error e := by
  unfold listP; rw [h]
theorem list_bad2 {ts : List Tk} {b : Bs} {kind : Int} {one : PS → PR Nat} {S S1 : PS} {i : Nat} {e : PF} (h : one S = .ok (i, S1)) (hb : isT ts S1 4 b = true) (h2 : one (on S1) = .error e) : listP ts b kind one S = .error e := by
  unfold listP
  rw [h]
  simp only
  rw [show (5000 : Nat) = 4999 + 1 from rfl, listLoop, if_pos hb, h2]
  rfl
/-- It reads as these parts, unless a limit is met. -/
def Joined (r : Except PF (List PD × List Nat)) (parts : List PD) : Prop := (∃ q, r = .error (122, q)) ∨ (1000 < parts.length ∧ ∃ q, r = .error (123, q)) ∨ ∃ offs, r = .ok (parts, offs)
theorem tree_joined {us : List Tk} {i : Nat} {S : PS} (h : (lv us 32).expr ⟨0, 0, [], []⟩ = .ok (i, S)) (hk : (cont (us.getD S.pos endT)).1 = 0) : Joined (treeOf us) S.parts := by
  unfold treeOf
  rw [h]
  simp only
  have hk' : (pk us S).kind = 0 := hk
  rw [if_pos hk']
  by_cases hb : 1000 < S.parts.length
  · rw [if_pos hb]; exact .inr (.inl ⟨hb, _, rfl⟩)
  · rw [if_neg hb]; exact .inr (.inr ⟨_, rfl⟩)
theorem tree_nest {us : List Tk} {q : Nat} (h : (lv us 32).expr ⟨0, 0, [], []⟩ = .error (122, q)) : Joined (treeOf us) [] ∧ ∀ ps, Joined (treeOf us) ps := by
  unfold treeOf
  rw [h]
  exact ⟨.inl ⟨q, rfl⟩, fun ps => .inl ⟨q, rfl⟩⟩
theorem shP_zero (ps : List PD) : ps.map (shP 0) = ps := by
  have : ∀ p : PD, shP 0 p = p := fun p => by obtain ⟨a, b, c, d⟩ := p; simp [shP]
  rw [List.map_congr_left (fun p _ => this p), List.map_id']

/-! ### Rows of contents -/
theorem cont_getD (us : List Tk) (i : Nat) : cont (us.getD i endT) = (us.map cont).getD i (0, [], 0) := by
  rw [List.getD_eq_getElem?_getD, List.getD_eq_getElem?_getD, List.getElem?_map]
  cases us[i]? <;> rfl
theorem getD_right {α : Type} (a b : List α) (i : Nat) (x : α) : (a ++ b).getD (a.length + i) x = b.getD i x := by
  rw [List.getD_eq_getElem?_getD, List.getD_eq_getElem?_getD, List.getElem?_append_right (by omega), Nat.add_sub_cancel_left]
theorem getD_left {α : Type} (a b : List α) {i : Nat} (h : i < a.length) (x : α) : (a ++ b).getD i x = a.getD i x := by
  rw [List.getD_eq_getElem?_getD, List.getD_eq_getElem?_getD, List.getElem?_append_left h]
abbrev Ct := Int × Bs × Int
/-- The contents of a source's tokens, a closing parenthesis behind. -/
theorem emb_of {us ts : List Tk} {x z : List Ct} (h0 : 0 < ts.length) (h : us.map cont = x ++ (ts.dropLast.map cont ++ ((4, [41], 0) :: z))) : Emb us x.length ts := by
  have hl : (ts.dropLast.map cont).length = ts.length - 1 := by rw [List.length_map, List.length_dropLast]
  refine ⟨fun j hj => ?_, ?_⟩
  · rw [cont_getD, h, getD_right, getD_left _ _ (by omega), cont_getD]
    rw [List.getD_eq_getElem?_getD, List.getD_eq_getElem?_getD, List.getElem?_map, List.getElem?_map, List.getElem?_dropLast, if_pos (by omega)]
  · rw [cont_getD, h, getD_right, ← hl]
    have := getD_right (ts.dropLast.map cont) ((4, [41], 0) :: z) 0 (0, [], 0)
    rw [Nat.add_zero] at this
    rw [this]; rfl
/-- What stands behind a source. -/
theorem behind_of {us ts : List Tk} {x z : List Ct} (h0 : 0 < ts.length) (h : us.map cont = x ++ (ts.dropLast.map cont ++ z)) (k : Nat) : cont (us.getD (x.length + (ts.length - 1) + k) endT) = z.getD k (0, [], 0) := by
  have hl : (ts.dropLast.map cont).length = ts.length - 1 := by rw [List.length_map, List.length_dropLast]
  rw [cont_getD, h, Nat.add_assoc, getD_right, ← hl, getD_right]
theorem ahead_of {us : List Tk} {x y : List Ct} (h : us.map cont = x ++ y) {k : Nat} (hk : k < x.length) : cont (us.getD k endT) = x.getD k (0, [], 0) := by
  rw [cont_getD, h, getD_left _ _ hk]
theorem expr_of {us : List Tk} {S : PS} {r : PR Nat} (h : exprP us (lv us 31) S = r) : (lv us 32).expr S = r := h
theorem conj_of {us : List Tk} {lo : Lv} {S : PS} {r : PR Nat} (h : listP us [38, 38] 4 (unitP us lo) S = r) : conjP us lo S = r := h
theorem expr_of2 {us : List Tk} {lo : Lv} {S : PS} {r : PR Nat} (h : listP us [124, 124] 5 (conjP us lo) S = r) : exprP us lo S = r := h
/-- In parentheses. -/
theorem join_par {f : Bs} {ts us : List Tk} {ps : List PD} {offs : List Nat} (h : Src f ts ps offs) (hu : us.map cont = [(4, [40], 0)] ++ (ts.dropLast.map cont ++ [(4, [41], 0), (0, [], 0)])) : Joined (treeOf us) ps := by
  have h0 := h.run.2.2.1
  have he := emb_of h0 hu
  have e : (lv us 32).expr = exprP us (lv us 31) := rfl
  have hb : cont (us.getD (0 + 1 + (ts.length - 1) + 1) endT) = (0, [], 0) := behind_of h0 hu 1
  rcases group_in h (p := 0) (ahead_of hu (by simp)) he [] [] (c := 0) (d := 31) rfl with hg | ⟨q, hg⟩
  · have hpos : ∀ (S : PS) m, S.pos = 0 + 1 + (ts.length - 1) + 1 → isT us S 4 m = false := fun S m hS => by
      rw [isT_c (c := (0, [], 0)) (by rw [hS]; exact hb)]; rfl
    have hx := expr_of (expr_of2 (list_one (conj_of (list_one hg (hpos _ _ rfl))) (hpos _ _ rfl)))
    have := tree_joined hx (by simp only; rw [hb])
    simp only [List.nil_append, List.length_nil, shP_zero] at this
    exact this
  · exact (tree_nest (q := q) (by rw [e]; exact list_bad (list_bad hg))).2 _
/-- Behind a negation. -/
theorem join_not {f : Bs} {ts us : List Tk} {ps : List PD} {offs : List Nat} (h : Src f ts ps offs) (hu : us.map cont = [(4, [33], 0), (4, [40], 0)] ++ (ts.dropLast.map cont ++ [(4, [41], 0), (0, [], 0)])) : Joined (treeOf us) (ps ++ [⟨3, [], 0, [ps.length - 1]⟩]) := by
  have h0 := h.run.2.2.1
  have he := emb_of h0 hu
  have e : (lv us 32).expr = exprP us (lv us 31) := rfl
  have hb : cont (us.getD (1 + 1 + (ts.length - 1) + 1) endT) = (0, [], 0) := behind_of h0 hu 1
  have a0 : cont (us.getD 0 endT) = (4, [33], 0) := ahead_of hu (k := 0) (by simp)
  have a1 : cont (us.getD 1 endT) = (4, [40], 0) := ahead_of hu (k := 1) (by simp)
  have eu : ∀ r, unitP us (lv us 30) ⟨1, 1, [], []⟩ = r → unitP us (lv us 31) ⟨0, 0, [], []⟩ = bindS r fun kid S2 => putP 0 ⟨3, [], 0, [kid]⟩ (closeN S2) := fun r hr => by
    unfold unitP
    rw [isT_c (S := ⟨0, 0, [], []⟩) a0, if_pos (by decide), open_at (S := ⟨0, 0, [], []⟩) a0 (by decide)]
    simp only [thenS]
    have : (lv us 31).unit = unitP us (lv us 30) := rfl
    rw [this, hr]
  rcases group_in h (p := 1) a1 he [] [] (c := 1) (d := 30) rfl with hg | ⟨q, hg⟩
  · have hg := eu _ hg
    simp only [bindS, putP] at hg
    have hpos : ∀ (S : PS) m, S.pos = 1 + 1 + (ts.length - 1) + 1 → isT us S 4 m = false := fun S m hS => by
      rw [isT_c (c := (0, [], 0)) (by rw [hS]; exact hb)]; rfl
    have hx := expr_of (expr_of2 (list_one (conj_of (list_one hg (hpos _ _ rfl))) (hpos _ _ rfl)))
    have := tree_joined hx (by simp only [putS, closeN]; rw [hb])
    simp only [List.nil_append, List.length_nil, shP_zero, putS, closeN, Nat.zero_add] at this
    exact this
  · have hg := eu _ hg
    exact (tree_nest (q := q) (by rw [e]; exact list_bad (list_bad hg))).2 _
/-- A key and a source: near, apart, count. -/
theorem scoped_in {f : Bs} {ts us : List Tk} {ps : List PD} {offs : List Nat} {kw key : Bs} {z : List Ct} (h : Src f ts ps offs) (hu : us.map cont = [(3, kw, 0), (4, [40], 0), (1, key, 0), (4, [44], 0)] ++ (ts.dropLast.map cont ++ ((4, [41], 0) :: z))) (kind : Int) :
    scopedP us (lv us 31) kind ⟨0, 0, [], []⟩ = .ok (ps.length, ⟨4 + (ts.length - 1) + 1, 0, ps ++ [⟨kind, key, 0, [ps.length - 1]⟩], offs.map (· + 4) ++ [0]⟩) ∨ ∃ q, scopedP us (lv us 31) kind ⟨0, 0, [], []⟩ = .error (122, q) := by
  have h0 := h.run.2.2.1
  have he := emb_of h0 hu
  have a1 : cont (us.getD 1 endT) = (4, [40], 0) := ahead_of hu (k := 1) (by simp)
  have a2 : cont (us.getD 2 endT) = (1, key, 0) := ahead_of hu (k := 2) (by simp)
  have a3 : cont (us.getD 3 endT) = (4, [44], 0) := ahead_of hu (k := 3) (by simp)
  unfold scopedP
  rw [open_at (S := on ⟨0, 0, [], []⟩) a1 (by decide)]
  simp only [thenS]
  rw [text_at (S := ⟨(on ⟨0, 0, [], []⟩).pos + 1, (on ⟨0, 0, [], []⟩).nest + 1, (on ⟨0, 0, [], []⟩).parts, (on ⟨0, 0, [], []⟩).offs⟩) a2]
  simp only [bindS]
  rw [mark_at (S := on ⟨(on ⟨0, 0, [], []⟩).pos + 1, (on ⟨0, 0, [], []⟩).nest + 1, (on ⟨0, 0, [], []⟩).parts, (on ⟨0, 0, [], []⟩).offs⟩) a3]
  simp only [on]
  rcases expr_in h he [] [] (c := 1) (d := 31) rfl with hx | ⟨q, hx⟩
  · left
    simp only [List.length_cons, List.length_nil] at hx
    rw [hx]
    simp only
    rw [shut_at (n := 0) (by simpa using he.shut)]
    simp [putP, putS, shP_zero]
  · right
    simp only [List.length_cons, List.length_nil] at hx
    rw [hx]
    exact ⟨q, rfl⟩
theorem kind_c {us : List Tk} {S : PS} {c : Int × Bs × Int} (h : cont (us.getD S.pos endT) = c) : (pk us S).kind = c.1 ∧ (pk us S).text = c.2.1 ∧ (pk us S).num = c.2.2 := by subst h; exact ⟨rfl, rfl, rfl⟩
theorem join_near {f : Bs} {ts us : List Tk} {ps : List PD} {offs : List Nat} {kw key : Bs} {kind : Int} (hw : (kw = [110, 101, 97, 114] ∧ kind = 8) ∨ (kw = [97, 112, 97, 114, 116] ∧ kind = 9)) (h : Src f ts ps offs)
    (hu : us.map cont = [(3, kw, 0), (4, [40], 0), (1, key, 0), (4, [44], 0)] ++ (ts.dropLast.map cont ++ [(4, [41], 0), (0, [], 0)])) : Joined (treeOf us) (ps ++ [⟨kind, key, 0, [ps.length - 1]⟩]) := by
  have h0 := h.run.2.2.1
  have e : (lv us 32).expr = exprP us (lv us 31) := rfl
  have hb : cont (us.getD (4 + (ts.length - 1) + 1) endT) = (0, [], 0) := behind_of h0 hu 1
  have a0 : cont (us.getD 0 endT) = (3, kw, 0) := ahead_of hu (k := 0) (by simp)
  have eu : unitP us (lv us 31) ⟨0, 0, [], []⟩ = scopedP us (lv us 31) kind ⟨0, 0, [], []⟩ := by
    obtain ⟨k1, k2, k3⟩ := kind_c (S := ⟨0, 0, [], []⟩) a0
    unfold unitP
    rw [isT_c (S := ⟨0, 0, [], []⟩) a0, isT_c (S := ⟨0, 0, [], []⟩) a0]
    rw [if_neg (by simp), if_neg (by simp)]
    unfold atomP
    simp only
    rw [if_pos k1, k2]
    rcases hw with ⟨rfl, rfl⟩ | ⟨rfl, rfl⟩ <;> simp
  rcases scoped_in h hu kind with hg | ⟨q, hg⟩
  · rw [← eu] at hg
    have hpos : ∀ (S : PS) m, S.pos = 4 + (ts.length - 1) + 1 → isT us S 4 m = false := fun S m hS => by
      rw [isT_c (c := (0, [], 0)) (by rw [hS]; exact hb)]; rfl
    have hx := expr_of (expr_of2 (list_one (conj_of (list_one hg (hpos _ _ rfl))) (hpos _ _ rfl)))
    exact tree_joined hx (by simp only; rw [hb])
  · rw [← eu] at hg
    exact (tree_nest (q := q) (by rw [e]; exact list_bad (list_bad hg))).2 _
/-- A count, compared. -/
theorem join_count {f : Bs} {ts us : List Tk} {ps : List PD} {offs : List Nat} {key : Bs} (h : Src f ts ps offs)
    (hu : us.map cont = [(3, [99, 111, 117, 110, 116], 0), (4, [40], 0), (1, key, 0), (4, [44], 0)] ++ (ts.dropLast.map cont ++ [(4, [41], 0), (4, [62, 61], 0), (2, [], 7), (0, [], 0)])) : Joined (treeOf us) (ps ++ [⟨20, key, 0, [ps.length - 1]⟩, ⟨12, [], 7, []⟩, ⟨6, [], 6, [ps.length, ps.length + 1]⟩]) := by
  have h0 := h.run.2.2.1
  have e : (lv us 32).expr = exprP us (lv us 31) := rfl
  have b1 : cont (us.getD (4 + (ts.length - 1) + 1) endT) = (4, [62, 61], 0) := behind_of h0 hu 1
  have b2 : cont (us.getD (4 + (ts.length - 1) + 2) endT) = (2, [], 7) := behind_of h0 hu 2
  have b3 : cont (us.getD (4 + (ts.length - 1) + 3) endT) = (0, [], 0) := behind_of h0 hu 3
  have a0 : cont (us.getD 0 endT) = (3, [99, 111, 117, 110, 116], 0) := ahead_of hu (k := 0) (by simp)
  obtain ⟨k1, k2, k3⟩ := kind_c (S := ⟨0, 0, [], []⟩) a0
  have eu : unitP us (lv us 31) ⟨0, 0, [], []⟩ = cmpP us (lv us 31) ⟨0, 0, [], []⟩ := by
    unfold unitP
    rw [isT_c (S := ⟨0, 0, [], []⟩) a0, isT_c (S := ⟨0, 0, [], []⟩) a0]
    rw [if_neg (by simp), if_neg (by simp)]
    unfold atomP
    simp only
    rw [if_pos k1, k2]
    simp
  have et : termP us (lv us 31) ⟨0, 0, [], []⟩ = scopedP us (lv us 31) 20 ⟨0, 0, [], []⟩ := by
    unfold termP
    simp only
    rw [k1, isT_c (S := ⟨0, 0, [], []⟩) a0, isT_c (S := ⟨0, 0, [], []⟩) a0, isT_c (S := ⟨0, 0, [], []⟩) a0]
    simp
  rcases scoped_in h hu 20 with hg | ⟨q, hg⟩
  · rw [← et] at hg
    have hr : ∀ pp oo, relationP us ⟨4 + (ts.length - 1) + 1, 0, pp, oo⟩ = .ok ((6, 6), ⟨4 + (ts.length - 1) + 2, 0, pp, oo⟩) := fun pp oo => by
      have hc : ∀ k m, isT us ⟨4 + (ts.length - 1) + 1, 0, pp, oo⟩ k m = ((4 : Int) == k && ([62, 61] : Bs) == m) := fun k m => isT_c (c := (4, [62, 61], 0)) b1 k m
      unfold relationP
      simp only [hc]
      simp [on]
    have ht : ∀ pp oo, termP us (lv us 31) ⟨4 + (ts.length - 1) + 2, 0, pp, oo⟩ = .ok (pp.length, ⟨4 + (ts.length - 1) + 3, 0, pp ++ [⟨12, [], 7, []⟩], oo ++ [4 + (ts.length - 1) + 2]⟩) := fun pp oo => by
      obtain ⟨j1, j2, j3⟩ := kind_c (S := ⟨4 + (ts.length - 1) + 2, 0, pp, oo⟩) (c := (2, [], 7)) b2
      unfold termP
      simp only
      rw [j1, j2, j3]
      simp [putP, putS, on]
    have hcmp : cmpP us (lv us 31) ⟨0, 0, [], []⟩ = .ok (ps.length + 2, ⟨4 + (ts.length - 1) + 3, 0, ps ++ [⟨20, key, 0, [ps.length - 1]⟩, ⟨12, [], 7, []⟩, ⟨6, [], 6, [ps.length, ps.length + 1]⟩], offs.map (· + 4) ++ [0, 4 + (ts.length - 1) + 2, 4 + (ts.length - 1) + 1]⟩) := by
      unfold cmpP
      rw [hg]
      simp only [bindS]
      rw [hr]
      simp only
      rw [ht]
      simp [putP, putS]
    rw [← eu] at hcmp
    have hpos : ∀ (S : PS) m, S.pos = 4 + (ts.length - 1) + 3 → isT us S 4 m = false := fun S m hS => by
      rw [isT_c (c := (0, [], 0)) (by rw [hS]; exact b3)]; rfl
    have hx := expr_of (expr_of2 (list_one (conj_of (list_one hcmp (hpos _ _ rfl))) (hpos _ _ rfl)))
    exact tree_joined hx (by simp only; rw [b3])
  · rw [← et] at hg
    have hcmp : cmpP us (lv us 31) ⟨0, 0, [], []⟩ = .error (122, q) := by unfold cmpP; rw [hg]; rfl
    rw [← eu] at hcmp
    exact (tree_nest (q := q) (by rw [e]; exact list_bad (list_bad hcmp))).2 _
/-- Two sources, a mark between them. -/
theorem join_two {f g : Bs} {ts vs us : List Tk} {ps qs : List PD} {offs offs2 : List Nat} {m : Bs} {kind : Int} (hm : (m = [38, 38] ∧ kind = 4) ∨ (m = [124, 124] ∧ kind = 5)) (h : Src f ts ps offs) (h2 : Src g vs qs offs2)
    (hu : us.map cont = [(4, [40], 0)] ++ (ts.dropLast.map cont ++ ((4, [41], 0) :: (4, m, 0) :: (4, [40], 0) :: (vs.dropLast.map cont ++ [(4, [41], 0), (0, [], 0)])))) :
    Joined (treeOf us) (ps ++ (qs.map (shP ps.length) ++ [⟨kind, [], 0, [ps.length - 1, ps.length + (qs.length - 1)]⟩])) := by
  obtain ⟨_, hpn, h0, _⟩ := h.run
  have h20 := h2.run.2.2.1
  have he := emb_of h0 hu
  have e : (lv us 32).expr = exprP us (lv us 31) := rfl
  have b1 : cont (us.getD (1 + (ts.length - 1) + 1) endT) = (4, m, 0) := behind_of h0 hu 1
  have b2 : cont (us.getD (1 + (ts.length - 1) + 2) endT) = (4, [40], 0) := behind_of h0 hu 2
  rw [show ([(4, [40], 0)] : List Ct).length = 1 from rfl] at he
  have hu2 : us.map cont = ([(4, [40], 0)] ++ (ts.dropLast.map cont ++ [(4, [41], 0), (4, m, 0), (4, [40], 0)])) ++ (vs.dropLast.map cont ++ [(4, [41], 0), (0, [], 0)]) := by rw [hu]; simp
  have hl2 : ([(4, [40], 0)] ++ (ts.dropLast.map cont ++ [(4, [41], 0), (4, m, 0), (4, [40], 0)]) : List Ct).length = 1 + (ts.length - 1) + 2 + 1 := by simp; omega
  have he2 := emb_of h20 hu2
  have b3 : cont (us.getD (([(4, [40], 0)] ++ (ts.dropLast.map cont ++ [(4, [41], 0), (4, m, 0), (4, [40], 0)]) : List Ct).length + (vs.length - 1) + 1) endT) = (0, [], 0) := behind_of h20 hu2 1
  rw [hl2] at he2 b3
  rcases group_in h (p := 0) (ahead_of hu (by simp)) he [] [] (c := 0) (d := 31) rfl with hg | ⟨q, hg⟩
  · simp only [List.nil_append, List.length_nil, Nat.zero_add, shP_zero] at hg
    have hm1 : ∀ m', isT us ⟨1 + (ts.length - 1) + 1, 0, ps, offs.map (· + 1)⟩ 4 m' = (m == m') := fun m' => by
      rw [isT_c (c := (4, m, 0)) b1]; simp
    have hpos : ∀ (S : PS) m', S.pos = 1 + (ts.length - 1) + 2 + 1 + (vs.length - 1) + 1 → isT us S 4 m' = false := fun S m' hS => by
      rw [isT_c (c := (0, [], 0)) (by rw [hS]; exact b3)]; rfl
    rcases group_in h2 (p := 1 + (ts.length - 1) + 2) b2 he2 ps (offs.map (· + 1)) (c := 0) (d := 31) rfl with hg2 | ⟨q, hg2⟩
    · have hon : on ⟨1 + (ts.length - 1) + 1, 0, ps, offs.map (· + 1)⟩ = ⟨1 + (ts.length - 1) + 2, 0, ps, offs.map (· + 1)⟩ := rfl
      rcases hm with ⟨rfl, rfl⟩ | ⟨rfl, rfl⟩
      · have hc := conj_of (list_two (kind := 4) hg (hm1 [38, 38]) (hon ▸ hg2) (hpos _ _ rfl))
        have hx := expr_of (expr_of2 (list_one hc (hpos _ _ rfl)))
        have := tree_joined hx (by simp only [putS]; rw [b3])
        simpa [putS] using this
      · have hc1 := conj_of (list_one hg (b := [38, 38]) (kind := 4) (by rw [hm1]; decide))
        have hc2 := conj_of (list_one hg2 (b := [38, 38]) (kind := 4) (hpos _ _ rfl))
        rw [← hon] at hc2
        have hc := list_two (kind := 5) hc1 (hm1 [124, 124]) hc2 (hpos _ _ rfl)
        have hx := expr_of (expr_of2 hc)
        have := tree_joined hx (by simp only [putS]; rw [b3])
        simpa [putS] using this
    · have hon : on ⟨1 + (ts.length - 1) + 1, 0, ps, offs.map (· + 1)⟩ = ⟨1 + (ts.length - 1) + 2, 0, ps, offs.map (· + 1)⟩ := rfl
      rcases hm with ⟨rfl, rfl⟩ | ⟨rfl, rfl⟩
      · exact (tree_nest (q := q) (by rw [e]; exact list_bad (list_bad2 hg (hm1 [38, 38]) (by rw [hon]; exact hg2)))).2 _
      · have hc1 := conj_of (list_one hg (b := [38, 38]) (kind := 4) (by rw [hm1]; decide))
        exact (tree_nest (q := q) (by rw [e]; exact list_bad2 hc1 (hm1 [124, 124]) (by rw [hon]; exact list_bad hg2))).2 _
  · exact (tree_nest (q := q) (by rw [e]; exact list_bad (list_bad hg))).2 _

end Go.Proofs.YtghhnnbbjlipcaaDoor.X

set_option linter.unusedVariables false
set_option linter.unusedSimpArgs false
namespace Go.Proofs.YtghhnnbbjlipcaaDoor.X
/-- A source reads as these parts, unless a limit is met. -/
def ReadsOK (l : Bs) (parts : List PD) : Prop := (4096 < l.length ∧ parseL l = .error (110, 4096)) ∨ (∃ q, parseL l = .error (122, q)) ∨ (1000 < parts.length ∧ ∃ q, parseL l = .error (123, q)) ∨ ∃ offs, parseL l = .ok (parts, offs)
theorem reads_pieces {pcs : List Piece} {parts : List PD} (h : fitsAll pcs) (hj : ∀ us : List Tk, us.map cont = (toksOf pcs).map cont ++ [(0, [], 0)] → Joined (treeOf us) parts) : ReadsOK (bytesOf pcs) parts := by
  by_cases hl : 4096 < (bytesOf pcs).length
  · exact .inl ⟨hl, by unfold parseL; rw [scan_long hl]⟩
  · obtain ⟨us, h1, h2⟩ := pieces_scan h (by omega)
    unfold ReadsOK parseL
    rw [h1]
    simp only
    rcases hj us h2 with ⟨q, hq⟩ | ⟨hp, q, hq⟩ | ⟨offs, ho⟩
    · rw [hq]; exact .inr (.inl ⟨_, rfl⟩)
    · rw [hq]; exact .inr (.inr (.inl ⟨hp, _, rfl⟩))
    · rw [ho]; exact .inr (.inr (.inr ⟨_, rfl⟩))
theorem gap_sp : Closed [32] := fun y => by simp [gapN, blankB]; omega
theorem Src.chain {f : Bs} {ts : List Tk} {ps : List PD} {offs : List Nat} (h : Src f ts ps offs) : Chain f 0 ts := (prefix_chain h.scan).2
abbrev pM (m : Bs) : Piece := .tok m ⟨4, m, 0, 0, m.length⟩
abbrev pW (m : Bs) : Piece := .tok m ⟨3, m, 0, 0, m.length⟩
theorem fit1 {c : UInt8} (hc : c = 40 ∨ c = 41 ∨ c = 91 ∨ c = 93 ∨ c = 123 ∨ c = 125 ∨ c = 44 ∨ c = 46) (v : Bs) : (pM [c]).fits v := ⟨mark1 hc v, (by decide : ¬ (4 : Int) = 0), rfl⟩
theorem fit2 {c d : UInt8} (hc : (c = 38 ∧ d = 38) ∨ (c = 124 ∧ d = 124) ∨ (c = 61 ∧ d = 61) ∨ (c = 33 ∧ d = 61) ∨ (c = 60 ∧ d = 61) ∨ (c = 62 ∧ d = 61)) (v : Bs) : (pM [c, d]).fits v := ⟨mark2 hc v, (by decide : ¬ (4 : Int) = 0), rfl⟩
theorem fit3 {c : UInt8} (hc : c = 33 ∨ c = 60 ∨ c = 62) {v : Bs} (hv : v.head? ≠ some 61) : (pM [c]).fits v := ⟨mark3 hc v hv, (by decide : ¬ (4 : Int) = 0), rfl⟩
theorem fitW {c : UInt8} {o v : Bs} (hc : wordB c = true) (hd : digB c = false) (ho : o.all wordB = true) (hv : stopH v = true) : (pW (c :: o)).fits v := ⟨word_tok hc hd ho hv, (by decide : ¬ (3 : Int) = 0), rfl⟩
theorem fitQ {key : Bs} (hk : key.length ≤ 127) (v : Bs) : (Piece.tok (quoteL key) ⟨1, key, 0, 0, (quoteL key).length⟩).fits v := ⟨by rw [quote_tok, if_neg (by omega)], (by decide : ¬ (1 : Int) = 0), rfl⟩
theorem val7 : valN 0 [55] = 7 := by rw [valN_cons, valN_nil, stepN_eq]; decide
theorem num7 : numOf [55] = some 7 := by
  have h := num_plain [55] (by simp) (by decide) (by decide) (by intro e; exact absurd e (by decide))
  rw [val7] at h
  exact h
theorem fit7 (v : Bs) (hv : stopH v = true) : (Piece.tok [55] ⟨2, [], 7, 0, 1⟩).fits v := ⟨num_tok (o := []) (.inl (by decide)) (by decide) hv num7, (by decide : ¬ (2 : Int) = 0), rfl⟩
theorem reads_and {f g : Bs} {ts vs : List Tk} {ps qs : List PD} {offs offs2 : List Nat} (h : Src f ts ps offs) (h2 : Src g vs qs offs2) :
    ReadsOK ([40] ++ f ++ [10, 41, 32, 38, 38, 32, 40] ++ g ++ [10, 41]) (ps ++ (qs.map (shP ps.length) ++ [⟨4, [], 0, [ps.length - 1, ps.length + (qs.length - 1)]⟩])) := by
  have e : ([40] ++ f ++ [10, 41, 32, 38, 38, 32, 40] ++ g ++ [10, 41] : Bs) = bytesOf [pM [40], .src f ts, pM [41], .gap [32], pM [38, 38], .gap [32], pM [40], .src g vs, pM [41]] := by simp [bytesOf, Piece.bytes]
  rw [e]
  refine reads_pieces ⟨fit1 (by simp) _, h.chain, fit1 (by simp) _, gap_sp, fit2 (by simp) _, gap_sp, fit1 (by simp) _, h2.chain, fit1 (by simp) _, trivial⟩ (fun us hu => join_two (.inl ⟨rfl, rfl⟩) h h2 ?_)
  rw [hu]; simp [toksOf, Piece.toks, cont]
theorem reads_or {f g : Bs} {ts vs : List Tk} {ps qs : List PD} {offs offs2 : List Nat} (h : Src f ts ps offs) (h2 : Src g vs qs offs2) :
    ReadsOK ([40] ++ f ++ [10, 41, 124, 124, 40] ++ g ++ [10, 41]) (ps ++ (qs.map (shP ps.length) ++ [⟨5, [], 0, [ps.length - 1, ps.length + (qs.length - 1)]⟩])) := by
  have e : ([40] ++ f ++ [10, 41, 124, 124, 40] ++ g ++ [10, 41] : Bs) = bytesOf [pM [40], .src f ts, pM [41], pM [124, 124], pM [40], .src g vs, pM [41]] := by simp [bytesOf, Piece.bytes]
  rw [e]
  refine reads_pieces ⟨fit1 (by simp) _, h.chain, fit1 (by simp) _, fit2 (by simp) _, fit1 (by simp) _, h2.chain, fit1 (by simp) _, trivial⟩ (fun us hu => join_two (.inr ⟨rfl, rfl⟩) h h2 ?_)
  rw [hu]; simp [toksOf, Piece.toks, cont]
theorem reads_not {f : Bs} {ts : List Tk} {ps : List PD} {offs : List Nat} (h : Src f ts ps offs) : ReadsOK ([33, 40] ++ f ++ [10, 41]) (ps ++ [⟨3, [], 0, [ps.length - 1]⟩]) := by
  have e : ([33, 40] ++ f ++ [10, 41] : Bs) = bytesOf [pM [33], pM [40], .src f ts, pM [41]] := by simp [bytesOf, Piece.bytes]
  rw [e]
  refine reads_pieces ⟨fit3 (by simp) (by simp [bytesOf, Piece.bytes]), fit1 (by simp) _, h.chain, fit1 (by simp) _, trivial⟩ (fun us hu => join_not h ?_)
  rw [hu]; simp [toksOf, Piece.toks, cont]
theorem reads_par {f : Bs} {ts : List Tk} {ps : List PD} {offs : List Nat} (h : Src f ts ps offs) : ReadsOK ([32, 40, 32] ++ f ++ [10, 32, 41, 32]) ps := by
  have e : ([32, 40, 32] ++ f ++ [10, 32, 41, 32] : Bs) = bytesOf [.gap [32], pM [40], .gap [32], .src f ts, .gap [32], pM [41], .gap [32]] := by simp [bytesOf, Piece.bytes]
  rw [e]
  refine reads_pieces ⟨gap_sp, fit1 (by simp) _, gap_sp, h.chain, gap_sp, fit1 (by simp) _, gap_sp, trivial⟩ (fun us hu => join_par h ?_)
  rw [hu]; simp [toksOf, Piece.toks, cont]
theorem reads_near {f key : Bs} {ts : List Tk} {ps : List PD} {offs : List Nat} (h : Src f ts ps offs) (hk : key.length ≤ 127) : ReadsOK ([110, 101, 97, 114, 40] ++ quoteL key ++ [44] ++ f ++ [10, 41]) (ps ++ [⟨8, key, 0, [ps.length - 1]⟩]) := by
  have e : ([110, 101, 97, 114, 40] ++ quoteL key ++ [44] ++ f ++ [10, 41] : Bs) = bytesOf [pW [110, 101, 97, 114], pM [40], .tok (quoteL key) ⟨1, key, 0, 0, (quoteL key).length⟩, pM [44], .src f ts, pM [41]] := by simp [bytesOf, Piece.bytes]
  rw [e]
  refine reads_pieces ⟨fitW (by decide) (by decide) (by decide) (by simp [bytesOf, Piece.bytes, stopH]; decide), fit1 (by simp) _, fitQ hk _, fit1 (by simp) _, h.chain, fit1 (by simp) _, trivial⟩ (fun us hu => join_near (.inl ⟨rfl, rfl⟩) h ?_)
  rw [hu]; simp [toksOf, Piece.toks, cont]
theorem reads_apart {f key : Bs} {ts : List Tk} {ps : List PD} {offs : List Nat} (h : Src f ts ps offs) (hk : key.length ≤ 127) : ReadsOK ([97, 112, 97, 114, 116, 40] ++ quoteL key ++ [44, 32] ++ f ++ [10, 41]) (ps ++ [⟨9, key, 0, [ps.length - 1]⟩]) := by
  have e : ([97, 112, 97, 114, 116, 40] ++ quoteL key ++ [44, 32] ++ f ++ [10, 41] : Bs) = bytesOf [pW [97, 112, 97, 114, 116], pM [40], .tok (quoteL key) ⟨1, key, 0, 0, (quoteL key).length⟩, pM [44], .gap [32], .src f ts, pM [41]] := by simp [bytesOf, Piece.bytes]
  rw [e]
  refine reads_pieces ⟨fitW (by decide) (by decide) (by decide) (by simp [bytesOf, Piece.bytes, stopH]; decide), fit1 (by simp) _, fitQ hk _, fit1 (by simp) _, gap_sp, h.chain, fit1 (by simp) _, trivial⟩ (fun us hu => join_near (.inr ⟨rfl, rfl⟩) h ?_)
  rw [hu]; simp [toksOf, Piece.toks, cont]
theorem reads_count {f key : Bs} {ts : List Tk} {ps : List PD} {offs : List Nat} (h : Src f ts ps offs) (hk : key.length ≤ 127) : ReadsOK ([99, 111, 117, 110, 116, 40] ++ quoteL key ++ [44] ++ f ++ [10, 41, 62, 61, 55]) (ps ++ [⟨20, key, 0, [ps.length - 1]⟩, ⟨12, [], 7, []⟩, ⟨6, [], 6, [ps.length, ps.length + 1]⟩]) := by
  have e : ([99, 111, 117, 110, 116, 40] ++ quoteL key ++ [44] ++ f ++ [10, 41, 62, 61, 55] : Bs) = bytesOf [pW [99, 111, 117, 110, 116], pM [40], .tok (quoteL key) ⟨1, key, 0, 0, (quoteL key).length⟩, pM [44], .src f ts, pM [41], pM [62, 61], .tok [55] ⟨2, [], 7, 0, 1⟩] := by simp [bytesOf, Piece.bytes]
  rw [e]
  refine reads_pieces ⟨fitW (by decide) (by decide) (by decide) (by simp [bytesOf, Piece.bytes, stopH]; decide), fit1 (by simp) _, fitQ hk _, fit1 (by simp) _, h.chain, fit1 (by simp) _, fit2 (by simp) _, fit7 _ (by simp [bytesOf, stopH]), trivial⟩ (fun us hu => join_count h ?_)
  rw [hu]; simp [toksOf, Piece.toks, cont]

end Go.Proofs.YtghhnnbbjlipcaaDoor.X

