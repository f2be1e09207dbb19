/-
  Plain law: a source cut behind one of its tokens, with a separator and whatever else behind: the tokens up to there are the same.
  Plain law: the number of a fault and the token at its place.
  Plain law of ParseRest.
-/
import Derived.Test.YtghhnnbbjlipcaaDoorLexAl
import Derived.Test.YtghhnnbbjlipcaaDoorParT
import Derived.Test.YtghhnnbbjlipcaaDoorLexCo
set_option linter.unusedVariables false
set_option linter.unusedSimpArgs false
namespace Go.Proofs.YtghhnnbbjlipcaaDoor.X
theorem takeWhile_upto : ∀ (l : Bs) (m : Nat), (l.takeWhile wordB).length ≤ m → (l.take m).takeWhile wordB = l.takeWhile wordB
  | [], m, _ => by simp
  | c :: l, 0, h => by
    rw [List.takeWhile_cons] at h
    split at h
    · simp at h
    · rename_i hc; simp [List.takeWhile_cons, hc]
  | c :: l, m + 1, h => by
    rw [List.takeWhile_cons] at h
    rw [List.take_succ_cons, List.takeWhile_cons, List.takeWhile_cons]
    split
    · rename_i hc
      rw [if_pos hc] at h
      rw [takeWhile_upto l m (by simpa using h)]
    · rfl
theorem headD_take (r : Bs) (d : Nat) (h : (r.takeWhile wordB).length ≤ d) : headD (r.take d) = headD r := by
  cases r with
  | nil => simp
  | cons x r =>
    cases d with
    | zero =>
      rw [List.takeWhile_cons] at h
      split at h
      · simp at h
      · rename_i hx
        cases hd : digB x with
        | true => exact absurd (by simp [wordB, hd]) hx
        | false => simp [headD, hd]
    | succ d => rfl
theorem headD_take_le (r : Bs) (d : Nat) (h : headD r = false) : headD (r.take d) = false := by
  cases r with
  | nil => simpa using h
  | cons x r =>
    cases d with
    | zero => rfl
    | succ d => exact h
theorem prefix_take {m l : Bs} {k : Nat} (h : m.length ≤ k) : m.isPrefixOf (l.take k) = m.isPrefixOf l := by
  induction m generalizing l k with
  | nil => simp [List.isPrefixOf]
  | cons c m ih =>
    cases l with
    | nil => simp
    | cons d l =>
      cases k with
      | zero => simp at h
      | succ k =>
        simp only [List.take_succ_cons, List.isPrefixOf]
        rw [ih (by simpa using h)]
theorem prefix_take_le {m l : Bs} {k : Nat} (h : m.isPrefixOf l = false) : m.isPrefixOf (l.take k) = false := by
  cases hb : m.isPrefixOf (l.take k) with
  | false => rfl
  | true =>
    have h1 := List.isPrefixOf_iff_prefix.1 hb
    have h2 := h1.trans (List.take_prefix k l)
    rw [List.isPrefixOf_iff_prefix.2 h2] at h
    cases h
theorem findMark_take {l m : Bs} {k : Nat} (hk : m.length ≤ k) : ∀ ms : List Bs, findMark l ms = some m → findMark (l.take k) ms = some m
  | [], h => by cases h
  | x :: ms, h => by
    simp only [findMark] at h ⊢
    split at h
    · rename_i hx
      injection h with h
      subst h
      rw [if_pos (by rw [prefix_take hk]; exact hx)]
    · rename_i hx
      rw [if_neg (by rw [prefix_take_le (Bool.eq_false_iff.2 hx)]; decide)]
      exact findMark_take hk ms h
/-- A token stands where its source is cut behind it. -/
theorem tokAt_take {r : Bs} {t : Tk} {k : Nat} (h : tokAt r 0 = .ok t) (hk : ¬ t.kind = 0) (hm : t.end_ ≤ k) : tokAt (r.take k) 0 = .ok t := by
  cases r with
  | nil => simp only [tokAt, List.drop_nil] at h; cases h; exact absurd rfl hk
  | cons c r =>
    have hpos := (tok_own h hk).2.1
    obtain ⟨d, rfl⟩ : ∃ d, k = d + 1 := ⟨k - 1, by omega⟩
    rw [tokAt0] at h
    rw [List.take_succ_cons, tokAt0]
    by_cases c1 : c = 34
    · rw [if_pos c1] at h ⊢
      unfold textAt at h
      split at h
      · cases h
      · cases h
      · cases h
      · rename_i b e he
        split at h
        · cases h
        · rename_i hb
          cases h
          have hbd := strL_bound _ _ _ _ _ _ (Nat.le_refl _) he
          have h2 := strL_any (((c :: r).drop (0 + 1)).take d |>.drop (e - (0 + 1))) _ _ _ _ _ _ (Nat.le_refl _) he
          have h3 : (c :: r.take d).drop (0 + 1) = ((c :: r).drop (0 + 1)).take d := rfl
          have h4 : List.take (e - (0 + 1)) ((c :: r).drop (0 + 1)) ++ ((((c :: r).drop (0 + 1)).take d).drop (e - (0 + 1))) = ((c :: r).drop (0 + 1)).take d := by
            have h5 : List.take (e - (0 + 1)) ((c :: r).drop (0 + 1)) = (((c :: r).drop (0 + 1)).take d).take (e - (0 + 1)) := by
              rw [List.take_take, Nat.min_eq_left (by simp only at hm; omega)]
            rw [h5, List.take_append_drop]
          rw [h4] at h2
          unfold textAt
          rw [h3, h2]
          simp only [if_neg hb]
    rw [if_neg c1] at h ⊢
    by_cases c2 : (digB c || (c == 45 && headD r)) = true
    · rw [if_pos c2] at h
      split at h
      · rename_i n hn
        cases h
        simp only [Nat.zero_add] at hm ⊢
        have hl : (r.takeWhile wordB).length ≤ d := by simp only [runL, List.length_cons] at hm; omega
        have hr : runL (c :: r.take d) = runL (c :: r) := by simp only [runL]; rw [takeWhile_upto r d hl]
        rw [headD_take r d hl, if_pos c2, hr, hn]
      · cases h
    rw [if_neg c2] at h
    by_cases c3 : wordB c = true
    · rw [if_pos c3] at h
      cases h
      simp only [Nat.zero_add] at hm ⊢
      have hl : (r.takeWhile wordB).length ≤ d := by simp only [runL, List.length_cons] at hm; omega
      have hr : runL (c :: r.take d) = runL (c :: r) := by simp only [runL]; rw [takeWhile_upto r d hl]
      rw [headD_take r d hl, if_neg c2, if_pos c3, hr]
    rw [if_neg c3] at h
    split at h
    · rename_i m hmk
      cases h
      simp only [Nat.zero_add] at hm ⊢
      have hf := findMark_take hm _ hmk
      rw [List.take_succ_cons] at hf
      have hd : digB c = false := by cases hq : digB c with
        | true => exact absurd (by simp [hq]) c2
        | false => rfl
      have h45 : (c == 45 && headD (r.take d)) = false := by
        cases hq : (c == 45) with
        | false => rfl
        | true =>
          have : headD r = false := by cases hh : headD r with
            | true => exact absurd (by simp [hq, hh]) c2
            | false => rfl
          rw [headD_take_le r d this]; rfl
      rw [if_neg (by rw [hd, h45]; decide), if_neg c3, hf]
    · cases h
theorem gapN_take : ∀ (p r : Bs) (b : Bool), gapN b (p ++ r) < p.length → gapN b p = gapN b (p ++ r)
  | [], r, b, h => by simp at h
  | c :: p, r, true, h => by
    simp only [List.cons_append, gapN] at h ⊢
    split at h
    · rename_i hc; rw [if_pos hc, if_pos hc, gapN_take p r false (by simpa using h)]
    · rename_i hc; rw [if_neg hc, if_neg hc, gapN_take p r true (by simpa using h)]
  | c :: p, r, false, h => by
    simp only [List.cons_append, gapN] at h ⊢
    split at h
    · rename_i hc; rw [if_pos hc, if_pos hc, gapN_take p r false (by simpa using h)]
    · rename_i hc
      rw [if_neg hc, if_neg hc]
      split at h
      · rename_i hd; rw [if_pos hd, if_pos hd, gapN_take p r true (by simpa using h)]
      · rename_i hd; rw [if_neg hd, if_neg hd]
theorem skipN_cut {l x : Bs} {i e : Nat} (hi : i ≤ e) (he : e ≤ l.length) (h : skipN l i < e) : skipN (l.take e ++ x) i = skipN l i := by
  unfold skipN at h ⊢
  have e1 : l.drop i = (l.drop i).take (e - i) ++ (l.drop i).drop (e - i) := (List.take_append_drop _ _).symm
  have hl : ((l.drop i).take (e - i)).length = e - i := by rw [List.length_take, List.length_drop]; omega
  have e2 : (l.take e ++ x).drop i = (l.drop i).take (e - i) ++ x := by
    rw [List.drop_append_of_le_length (by rw [List.length_take]; omega), List.drop_take]
  have h1 : gapN false ((l.drop i).take (e - i)) = gapN false (l.drop i) := by
    conv => rhs; rw [e1]
    exact gapN_take _ _ _ (by rw [hl]; rw [← e1]; omega)
  rw [e2, gapN_append x _ _ (by rw [hl, h1]; omega), h1]
theorem tok_cut {l x : Bs} {a e : Nat} {t : Tk} (hx : sepH x = true) (ha : a ≤ l.length) (h : tokAt l a = .ok t) (hk : ¬ t.kind = 0) (he : t.end_ ≤ e) (hl : e ≤ l.length) : tokAt (l.take e ++ x) a = .ok t := by
  have hb := tok_cases ha h hk
  rw [tokAt_drop l a ha] at h
  cases h0 : tokAt (l.drop a) 0 with
  | error f => rw [h0] at h; cases h
  | ok t0 =>
    rw [h0] at h
    simp only [shR] at h
    injection h with h
    have hk0 : ¬ t0.kind = 0 := by intro e; apply hk; rw [← h]; exact e
    have h1 : t.end_ = t0.end_ + a := by rw [← h]; rfl
    have h2 := tokAt_take (k := e - a) h0 hk0 (by omega)
    have hne : (l.drop a).take (e - a) ≠ [] := by
      intro e3
      have := congrArg List.length e3
      rw [List.length_take, List.length_drop] at this
      simp at this
      omega
    have h3 := tokAt_ext hne hx (by rw [h2]; exact fun e => by cases e)
    have e2 : (l.take e ++ x).drop a = (l.drop a).take (e - a) ++ x := by
      rw [List.drop_append_of_le_length (by rw [List.length_take]; omega), List.drop_take]
    rw [tokAt_drop _ a (by rw [List.length_append, List.length_take]; omega), e2, h3, h2]
    simp only [shR, h]
theorem chain_ge {l : Bs} {i : Nat} {ts : List Tk} (h : Chain l i ts) : ∀ t ∈ ts, i ≤ t.at_ ∧ i ≤ t.end_ := by
  induction h with
  | fin i hi hs => intro t ht; simp at ht; subst ht; exact ⟨hi, hi⟩
  | cons i t ts hi ht hk ha hl he hc ih =>
    intro u hu
    have hg := skipN_ge l i
    rcases List.mem_cons.1 hu with rfl | hu
    · omega
    · have := ih u hu; omega
/-- The tokens up to the cut. -/
theorem chain_cut {l x : Bs} {i : Nat} {ts : List Tk} (hx : sepH x = true) (h : Chain l i ts) : ∀ (j : Nat) (hj : j < ts.length), ¬ ts[j].kind = 0 → ts[j].end_ ≤ l.length → ∀ ts', Chain (l.take ts[j].end_ ++ x) i ts' → ts'.take (j + 1) = ts.take (j + 1) := by
  induction h with
  | fin i hi hs => intro j hj hk; simp at hj; subst hj; exact absurd rfl hk
  | cons i t ts hi ht hk ha hl he hc ih =>
    intro j hj hkj hej ts' h'
    have hend : t.end_ ≤ (t :: ts)[j].end_ := by
      cases j with
      | zero => exact Nat.le_refl _
      | succ j => exact (chain_ge hc _ (List.getElem_mem (by simpa using hj))).2
    have hsk : skipN l i < (t :: ts)[j].end_ := by omega
    have hs := skipN_cut (x := x) (by have := skipN_ge l i; omega) hej hsk
    have htk := tok_cut hx (skipN_le hi) ht hk hend hej
    cases h' with
    | fin _ hi2 hs2 => rw [hs, List.length_append, List.length_take] at hs2; omega
    | cons _ t' ts2 hi2 ht2 hk2 ha2 hl2 he2 hc2 =>
      rw [hs, htk] at ht2
      injection ht2 with ht2
      subst ht2
      cases j with
      | zero => rfl
      | succ j =>
        rw [List.take_succ_cons, List.take_succ_cons]
        congr 1
        exact ih j (by simpa using hj) hkj hej ts2 hc2

end Go.Proofs.YtghhnnbbjlipcaaDoor.X

set_option linter.unusedVariables false
set_option linter.unusedSimpArgs false
namespace Go.Proofs.YtghhnnbbjlipcaaDoor.X
/-- The end is refused as the end, any other token by another number. -/
def GoodE (ts : List Tk) (e : PF) : Prop := (e.1 = 121 ∧ (ts.getD e.2 endT).kind = 0) ∨ ((e.1 = 120 ∨ e.1 = 122 ∨ e.1 = 124) ∧ ¬ (ts.getD e.2 endT).kind = 0)
def ErrK {α : Type} (ts : List Tk) (n : Nat) (f : PS → PR α) : Prop := ∀ S e, S.nest = n → f S = .error e → GoodE ts e
theorem wrong_good (ts : List Tk) (S : PS) : GoodE ts (wrongP ts S) := by
  unfold wrongP
  split
  · rename_i h; exact .inl ⟨rfl, h⟩
  · rename_i h; exact .inr ⟨.inl rfl, h⟩
theorem mark_good {ts : List Tk} {m : Bs} {S : PS} {e : PF} (h : markP ts m S = .error e) : GoodE ts e := by
  unfold markP at h; split at h
  · cases h
  · injection h with h; rw [← h]; exact wrong_good ts S
theorem open_good {ts : List Tk} {m : Bs} {S : PS} {e : PF} (h : openP ts m S = .error e) : GoodE ts e := by
  unfold openP at h; split at h
  · rename_i hi
    split at h
    · injection h with h; rw [← h]
      refine .inr ⟨.inr (.inl rfl), ?_⟩
      unfold isT pk at hi
      rw [Bool.and_eq_true] at hi
      have := eq_of_beq hi.1
      simp only
      rw [this]; decide
    · cases h
  · injection h with h; rw [← h]; exact wrong_good ts S
theorem shut_good {ts : List Tk} {S : PS} {e : PF} (h : shutP ts S = .error e) : GoodE ts e := by
  unfold shutP at h
  cases hm : markP ts [41] S with
  | error f => rw [hm] at h; injection h with h; rw [← h]; exact mark_good hm
  | ok S1 => rw [hm] at h; cases h
theorem text_good {ts : List Tk} {S : PS} {e : PF} (h : textP ts S = .error e) : GoodE ts e := by
  unfold textP at h; split at h
  · cases h
  · injection h with h; rw [← h]; exact wrong_good ts S
theorem loop_good {ts : List Tk} {k : Nat} {m : Bs} {one : PS → PR Nat} (h1 : ErrK ts k one) (h2 : FairF one) : ∀ (n : Nat) (kids : List Nat) (S : PS) (e : PF), S.nest = k → listLoop ts m one n kids S = .error e → GoodE ts e
  | 0, kids, S, e, hk, h => by cases h
  | n + 1, kids, S, e, hk, h => by
    simp only [listLoop] at h
    split at h
    · cases ho : one (on S) with
      | error f => rw [ho] at h; injection h with h; rw [← h]; exact h1 (on S) _ hk ho
      | ok p =>
        obtain ⟨i, S1⟩ := p
        rw [ho] at h
        exact loop_good h1 h2 n _ _ _ ((h2 _ _ _ ho).nest.trans hk) h
    · cases h
theorem list_good {ts : List Tk} {k : Nat} {m : Bs} {kind : Int} {one : PS → PR Nat} (h1 : ErrK ts k one) (h2 : FairF one) : ErrK ts k (listP ts m kind one) := by
  intro S e hk h
  unfold listP at h
  cases ho : one S with
  | error f => rw [ho] at h; injection h with h; rw [← h]; exact h1 _ _ hk ho
  | ok p =>
    obtain ⟨i, S1⟩ := p
    rw [ho] at h
    simp only at h
    cases hl : listLoop ts m one 5000 [i] S1 with
    | error f => rw [hl] at h; injection h with h; rw [← h]; exact loop_good h1 h2 _ _ _ _ ((h2 _ _ _ ho).nest.trans hk) hl
    | ok q =>
      obtain ⟨ks, S2⟩ := q
      rw [hl] at h
      simp only [listEnd] at h
      split at h
      · cases h
      · exact (put_err h).elim
structure LvGood (ts : List Tk) (n : Nat) (lo : Lv) : Prop where
  expr : ErrK ts n lo.expr
  unit : ErrK ts n lo.unit
  term : ErrK ts n lo.term
theorem scoped_good {ts : List Tk} {n : Nat} (hn : n ≤ 32) {lo : Lv} (hl : LvFair lo) (he : n < 32 → LvGood ts (n + 1) lo) (kind : Int) : ErrK ts n (scopedP ts lo kind) := by
  intro S e hk h
  unfold scopedP at h
  rcases then_err h with h | ⟨S1, h1, h⟩
  · exact open_good h
  obtain ⟨rfl, hn2⟩ := open_fair h1
  simp only [X.on] at hn2
  rcases bind_err h with h | ⟨key, S2, h2, h⟩
  · exact text_good h
  rw [text_fair h2] at h
  rcases then_err h with h | ⟨S3, h3, h⟩
  · exact mark_good h
  rw [mark_fair h3] at h
  rcases bind_err h with h | ⟨kid, S4, h4, h⟩
  · exact (he (by omega)).expr _ _ (by simp only [X.on]; omega) h
  rcases then_err h with h | ⟨S5, h5, h⟩
  · exact shut_good h
  · exact (put_err h).elim
theorem owned_good {ts : List Tk} {n : Nat} : ErrK ts n (ownedP ts) := by
  intro S e hk h
  unfold ownedP ownK ownN at h
  split at h
  · injection h with h; rw [← h]; exact wrong_good ts S
  split at h
  · rcases bind_err h with h | ⟨s, S2, h2, h⟩
    · exact text_good h
    rcases then_err h with h | ⟨S3, h3, h⟩
    · exact mark_good h
    · exact (put_err h).elim
  split at h
  · split at h
    · exact (put_err h).elim
    split at h
    · exact (put_err h).elim
    split at h
    · exact (put_err h).elim
    split at h
    · rcases then_err h with h | ⟨S3, h3, h⟩
      · exact mark_good h
      rcases bind_err h with h | ⟨s, S4, h4, h⟩
      · exact text_good h
      rcases then_err h with h | ⟨S5, h5, h⟩
      · exact mark_good h
      · exact (put_err h).elim
    · injection h with h; rw [← h]; exact wrong_good ts _
  · injection h with h; rw [← h]; exact wrong_good ts _
theorem setLoop_good {ts : List Tk} : ∀ (n : Nat) (kids : List Nat) (S : PS) (e : PF), setLoop ts n kids S = .error e → GoodE ts e
  | 0, kids, S, e, h => by cases h
  | n + 1, kids, S, e, h => by
    simp only [setLoop] at h
    split at h
    · cases h
    · rcases then_err h with h | ⟨S1, hs, h⟩
      · split at h
        · exact mark_good h
        · cases h
      split at h
      · injection h with h; rw [← h]; exact wrong_good ts _
      rename_i hk
      split at h
      · injection h with h; rw [← h]
        refine .inr ⟨.inr (.inr rfl), fun e0 => hk ⟨?_, ?_⟩⟩
        · unfold pk; simp only at e0; rw [e0]; decide
        · unfold pk; simp only at e0; rw [e0]; decide
      split at h
      · exact setLoop_good n _ _ _ h
      · exact setLoop_good n _ _ _ h
theorem set_good {ts : List Tk} {n : Nat} : ErrK ts n (setP ts) := by
  intro S e hk h
  unfold setP at h
  rcases then_err h with h | ⟨S1, h1, h⟩
  · exact mark_good h
  rcases bind_err h with h | ⟨ks, S2, h2, h⟩
  · exact setLoop_good _ _ _ _ h
  · exact (put_err h).elim
theorem term_good {ts : List Tk} {n : Nat} (hn : n ≤ 32) {lo : Lv} (hl : LvFair lo) (he : n < 32 → LvGood ts (n + 1) lo) : ErrK ts n (termP ts lo) := by
  intro S e hk h
  unfold termP at h
  simp only at h
  split at h
  · exact (put_err h).elim
  split at h
  · exact (put_err h).elim
  split at h
  · exact set_good _ _ hk h
  split at h
  · rcases then_err h with h | ⟨S1, h1, h⟩
    · exact open_good h
    obtain ⟨rfl, hn2⟩ := open_fair h1
    simp only [X.on] at hn2
    rcases bind_err h with h | ⟨kid, S2, h2, h⟩
    · exact (he (by omega)).term _ _ (by simp only [X.on]; omega) h
    rcases then_err h with h | ⟨S3, h3, h⟩
    · exact shut_good h
    · exact (put_err h).elim
  split at h
  · exact scoped_good hn hl he 20 _ _ hk h
  · exact owned_good _ _ hk h
theorem relation_good {ts : List Tk} {S : PS} {e : PF} (h : relationP ts S = .error e) : GoodE ts e := by
  unfold relationP at h
  repeat' split at h
  all_goals (first | cases h; done | (injection h with h; rw [← h]; exact wrong_good ts S))
theorem cmp_good {ts : List Tk} {n : Nat} (hn : n ≤ 32) {lo : Lv} (hl : LvFair lo) (he : n < 32 → LvGood ts (n + 1) lo) : ErrK ts n (cmpP ts lo) := by
  intro S e hk h
  unfold cmpP at h
  rcases bind_err h with h | ⟨l, S1, h1, h⟩
  · exact term_good hn hl he _ _ hk h
  have e1 := (term_fair hl _ _ _ h1).nest
  rcases bind_err h with h | ⟨kn, S2, h2, h⟩
  · exact relation_good h
  rw [relation_fair h2] at h
  rcases bind_err h with h | ⟨r, S3, h3, h⟩
  · exact term_good hn hl he _ _ (by simp only [X.on]; omega) h
  · exact (put_err h).elim
theorem atom_good {ts : List Tk} {n : Nat} (hn : n ≤ 32) {lo : Lv} (hl : LvFair lo) (he : n < 32 → LvGood ts (n + 1) lo) : ErrK ts n (atomP ts lo) := by
  intro S e hk h
  unfold atomP at h
  simp only at h
  split at h
  · split at h
    · exact (put_err h).elim
    split at h
    · exact (put_err h).elim
    split at h
    · exact scoped_good hn hl he 8 _ _ hk h
    split at h
    · exact scoped_good hn hl he 9 _ _ hk h
    split at h
    · rcases then_err h with h | ⟨S1, h1, h⟩
      · exact mark_good h
      rcases bind_err h with h | ⟨s, S2, h2, h⟩
      · exact text_good h
      rcases then_err h with h | ⟨S3, h3, h⟩
      · exact mark_good h
      · exact (put_err h).elim
    · exact cmp_good hn hl he _ _ hk h
  · exact cmp_good hn hl he _ _ hk h
theorem unit_good {ts : List Tk} {n : Nat} (hn : n ≤ 32) {lo : Lv} (hl : LvFair lo) (he : n < 32 → LvGood ts (n + 1) lo) : ErrK ts n (unitP ts lo) := by
  intro S e hk h
  unfold unitP at h
  split at h
  · rcases then_err h with h | ⟨S1, h1, h⟩
    · exact open_good h
    obtain ⟨rfl, hn2⟩ := open_fair h1
    rcases bind_err h with h | ⟨kid, S2, h2, h⟩
    · exact (he (by omega)).unit _ _ (by simp only; omega) h
    · exact (put_err h).elim
  split at h
  · rcases then_err h with h | ⟨S1, h1, h⟩
    · exact open_good h
    obtain ⟨rfl, hn2⟩ := open_fair h1
    rcases bind_err h with h | ⟨kid, S2, h2, h⟩
    · exact (he (by omega)).expr _ _ (by simp only; omega) h
    rcases then_err h with h | ⟨S3, h3, h⟩
    · exact shut_good h
    · cases h
  · exact atom_good hn hl he _ _ hk h
theorem level_good {ts : List Tk} {n : Nat} (hn : n ≤ 32) {lo : Lv} (hl : LvFair lo) (he : n < 32 → LvGood ts (n + 1) lo) : LvGood ts n ⟨exprP ts lo, unitP ts lo, termP ts lo⟩ :=
  ⟨list_good (list_good (unit_good hn hl he) (unit_fair hl)) (conj_fair hl), unit_good hn hl he, term_good hn hl he⟩
theorem lv_good (ts : List Tk) : ∀ d, d ≤ 32 → LvGood ts (32 - d) (lv ts d)
  | 0, _ => level_good (Nat.le_refl _) noLv_fair (fun h => absurd h (by omega))
  | d + 1, h => level_good (by omega) (lv_fair ts d) (fun _ => by
      rw [show 32 - (d + 1) + 1 = 32 - d by omega]
      exact lv_good ts d (by omega))
/-- What a row of tokens is refused for. -/
theorem tree_err {ts : List Tk} {e : PF} (h : treeOf ts = .error e) : GoodE ts e ∨ (e.1 = 123 ∧ ∃ i S, (lv ts 32).expr ⟨0, 0, [], []⟩ = .ok (i, S) ∧ (pk ts S).kind = 0 ∧ 1000 < S.parts.length ∧ e.2 = S.offs.getD 1000 0) := by
  unfold treeOf at h
  cases hx : (lv ts 32).expr ⟨0, 0, [], []⟩ with
  | error f =>
    rw [hx] at h; injection h with h; rw [← h]
    exact .inl ((lv_good ts 32 (Nat.le_refl _)).expr _ _ rfl hx)
  | ok p =>
    obtain ⟨i, S⟩ := p
    rw [hx] at h
    simp only at h
    split at h
    · rename_i hk
      split at h
      · rename_i hb
        injection h with h; rw [← h]
        exact .inr ⟨rfl, i, S, rfl, hk, hb, rfl⟩
      · cases h
    · injection h with h; rw [← h]; exact .inl (wrong_good ts S)
/-- A token that is refused is refused over every row that goes so far as it does. -/
theorem tree_cut {ts us : List Tk} {e : PF} (h : treeOf ts = .error e) (hc : e.1 ≠ 123) (hk : ¬ (ts.getD e.2 endT).kind = 0) (ha : ∀ i, i ≤ e.2 → us.getD i endT = ts.getD i endT) : treeOf us = .error e := by
  have hsim := (lv_sim ⟨ts, us, 0, [], [], 0⟩ 32 0 rfl).expr ⟨0, 0, [], []⟩ rfl
  have hat : ∀ i, i ≤ e.2 → AtI ⟨ts, us, 0, [], [], 0⟩ i := fun i hi => by
    unfold AtI
    simp only [Nat.add_zero]
    rw [ha i hi]
    exact ⟨rfl, rfl, rfl⟩
  have hsh : ∀ S : PS, (sh ⟨ts, us, 0, [], [], 0⟩ S).pos = S.pos := fun S => rfl
  unfold treeOf at h ⊢
  have e0 : sh ⟨ts, us, 0, [], [], 0⟩ ⟨0, 0, [], []⟩ = ⟨0, 0, [], []⟩ := rfl
  rw [e0] at hsim
  simp only [Nat.add_zero] at hsim
  cases hx : (lv ts 32).expr ⟨0, 0, [], []⟩ with
  | error f =>
    rw [hx] at h hsim
    injection h with h; subst h
    have h2 := hsim.2 (fun j hj => hat j hj)
    cases hy : (lv us 32).expr ⟨0, 0, [], []⟩ with
    | error f' =>
      rw [hy] at h2
      rcases h2 with h2 | ⟨h2, _⟩
      · rw [h2]; rfl
      · exact absurd h2 (Nat.lt_irrefl _)
    | ok q => rw [hy] at h2; exact h2.elim
  | ok p =>
    obtain ⟨i, S⟩ := p
    rw [hx] at h hsim
    simp only at h
    have hes : e = wrongP ts S := by
      split at h
      · split at h
        · injection h with h; rw [← h] at hc; exact absurd rfl hc
        · cases h
      · injection h with h; exact h.symm
    have hp : e.2 = S.pos := by rw [hes, wrong_at]
    have h2 := hsim.2 ⟨fun j hj => hat j (by omega), (hat S.pos (by omega)).cl⟩
    have hkk : (pk us (sh ⟨ts, us, 0, [], [], 0⟩ S)).kind = (pk ts S).kind := by
      unfold pk
      rw [hsh, ha S.pos (by omega)]
    have hkS : ¬ (pk ts S).kind = 0 := by unfold pk; rw [← hp]; exact hk
    cases hy : (lv us 32).expr ⟨0, 0, [], []⟩ with
    | error f' => rw [hy] at h2; exact absurd h2.1 (Nat.lt_irrefl _)
    | ok q =>
      obtain ⟨y, T⟩ := q
      rw [hy] at h2
      obtain ⟨_, rfl⟩ := h2
      simp only
      rw [if_neg (by rw [hkk]; exact hkS), hes]
      unfold wrongP
      rw [hkk, if_neg hkS, if_neg hkS, hsh]

end Go.Proofs.YtghhnnbbjlipcaaDoor.X

set_option linter.unusedVariables false
set_option linter.unusedSimpArgs false
namespace Go.Proofs.YtghhnnbbjlipcaaDoor.X
theorem chain_inc {l : Bs} {i : Nat} {ts : List Tk} (h : Chain l i ts) : ∀ (a b : Nat) (ha : a < b) (hb : b < ts.length), ts[a].at_ < ts[b].at_ := by
  induction h with
  | fin i hi hs => intro a b ha hb; simp at hb; omega
  | cons i t ts hi ht hk ha hl he hc ih =>
    intro a b hab hb
    cases b with
    | zero => omega
    | succ b =>
      cases a with
      | zero =>
        have := (chain_ge hc _ (List.getElem_mem (show b < ts.length by simpa using hb))).1
        simp only [List.getElem_cons_zero, List.getElem_cons_succ]
        omega
      | succ a => exact ih a b (by omega) (by simpa using hb)
theorem chain_in {l : Bs} {i : Nat} {ts : List Tk} (h : Chain l i ts) : ∀ (a : Nat) (ha : a < ts.length), ¬ ts[a].kind = 0 → ts[a].at_ < ts[a].end_ ∧ ts[a].end_ ≤ l.length := by
  induction h with
  | fin i hi hs => intro a ha hk; simp at ha; subst ha; exact absurd rfl hk
  | cons i t ts hi ht hk ha hl he hc ih =>
    intro a haa hka
    cases a with
    | zero => exact ⟨hl, he⟩
    | succ a => exact ih a (by simpa using haa) hka
theorem getD_in {ts : List Tk} {j : Nat} (h : ¬ (ts.getD j endT).kind = 0) : ∃ hj : j < ts.length, ts.getD j endT = ts[j] := by
  rcases Nat.lt_or_ge j ts.length with h1 | h1
  · exact ⟨h1, by rw [List.getD_eq_getElem?_getD, List.getElem?_eq_getElem h1]; rfl⟩
  · rw [List.getD_eq_getElem?_getD, List.getElem?_eq_none h1] at h; exact absurd rfl h
theorem take_getD {ts us : List Tk} {j : Nat} (h : us.take (j + 1) = ts.take (j + 1)) (i : Nat) (hi : i ≤ j) : us.getD i endT = ts.getD i endT := by
  have h1 := congrArg (fun l => l[i]?) h
  simp only [List.getElem?_take] at h1
  rw [if_pos (by omega), if_pos (by omega)] at h1
  rw [List.getD_eq_getElem?_getD, List.getD_eq_getElem?_getD, h1]
/-- A token that is refused by its own number. -/
structure Refused (l : Bs) (c : Int) (ts : List Tk) (j : Nat) : Prop where
  scan : scanL l = (ts, none)
  tree : treeOf ts = .error (c, j)
  code : c = 120 ∨ c = 122 ∨ c = 124
  lt : j < ts.length
  kind : ¬ ts[j].kind = 0
  place : placeT ts j = ts[j].at_
  first : ∀ i (h : i < j), ¬ (ts[i].at_ : Int) = (ts[j].at_ : Nat)
  pos : ts[j].at_ < ts[j].end_
  inn : ts[j].end_ ≤ l.length
  short : l.length ≤ 4096
theorem rest_cases (l : Bs) : (∃ r, parseL l = .ok r) ∨ (∃ f : PF, parseL l = .error f ∧ f.1 ≠ 0 ∧ f.1 ≠ 120 ∧ f.1 ≠ 122 ∧ f.1 ≠ 124) ∨ ∃ c ts j, parseL l = .error (c, placeT ts j) ∧ Refused l c ts j := by
  unfold parseL
  cases h : scanL l with
  | mk ts f =>
    cases f with
    | some f =>
      have h0 : ts = [] := by
        unfold scanL at h
        split at h
        · exact (congrArg Prod.fst h).symm
        · rename_i hs
          have := congrArg Prod.snd h
          simp only at this
          rw [this] at hs; exact absurd rfl hs
      subst h0
      obtain ⟨c, a⟩ := f
      have := scan_fault h
      exact .inr (.inl ⟨_, rfl, by simp only; omega, by simp only; omega, by simp only; omega, by simp only; omega⟩)
    | none =>
      simp only
      cases ht : treeOf ts with
      | ok p => obtain ⟨ps, offs⟩ := p; exact .inl ⟨_, rfl⟩
      | error e =>
        obtain ⟨c, j⟩ := e
        rcases tree_err ht with (⟨h1, h2⟩ | ⟨h1, h2⟩) | ⟨h1, _⟩
        · simp only at h1; subst h1; exact .inr (.inl ⟨_, rfl, (show (121 : Int) ≠ 0 by decide), (show (121 : Int) ≠ 120 by decide), (show (121 : Int) ≠ 122 by decide), (show (121 : Int) ≠ 124 by decide)⟩)
        · right; right
          obtain ⟨hl, hch⟩ := prefix_chain h
          obtain ⟨hj, hg⟩ := getD_in h2
          rw [hg] at h2
          obtain ⟨k1, k2⟩ := chain_in hch j hj h2
          exact ⟨c, ts, j, rfl, h, ht, h1, hj, h2, by unfold placeT; rw [hg], fun i hi => by have := chain_inc hch i j hi hj; omega, k1, k2, hl⟩
        · simp only at h1; subst h1; exact .inr (.inl ⟨_, rfl, (show (123 : Int) ≠ 0 by decide), (show (123 : Int) ≠ 120 by decide), (show (123 : Int) ≠ 122 by decide), (show (123 : Int) ≠ 124 by decide)⟩)
/-- It is refused whatever stands behind it. -/
theorem Refused.stays {l : Bs} {c : Int} {ts : List Tk} {j : Nat} (h : Refused l c ts j) {x : Bs} (hx : sepH x = true) {ts' : List Tk} (hs : scanL (l.take (ts[j]'h.lt).end_ ++ x) = (ts', none)) :
    parseL (l.take (ts[j]'h.lt).end_ ++ x) = .error (c, placeT ts j) := by
  obtain ⟨hl, hch⟩ := prefix_chain h.scan
  obtain ⟨hl', hch'⟩ := prefix_chain hs
  have htk := chain_cut hx hch j h.lt h.kind h.inn ts' hch'
  have hg := take_getD htk
  have hkd : ¬ (ts.getD j endT).kind = 0 := by rw [List.getD_eq_getElem?_getD, List.getElem?_eq_getElem h.lt]; exact h.kind
  have ht := tree_cut h.tree (by rcases h.code with e | e | e <;> simp only [e] <;> decide) hkd (fun i hi => hg i hi)
  unfold parseL
  rw [hs]
  simp only
  rw [ht]
  simp only
  unfold placeT
  rw [hg j (Nat.le_refl _)]

end Go.Proofs.YtghhnnbbjlipcaaDoor.X

