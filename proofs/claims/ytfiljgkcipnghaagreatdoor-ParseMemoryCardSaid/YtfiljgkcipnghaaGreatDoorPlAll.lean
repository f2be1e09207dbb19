/-
  Plain law: the number of a fault and the token at its place.
  Plain law of ParseRest.
  Plain law: the parts come in postorder, each with the kids of its kind, each at a token with which it may begin.
  Plain law: the same, up to the whole descent.
  Plain law of ParseEither: what stands at a part's place in the source; where a fault lies.
-/
import Derived.Test.YtfiljgkcipnghaaGreatDoorParT
import Derived.Test.YtfiljgkcipnghaaGreatDoorLexPlain
import Derived.Test.YtfiljgkcipnghaaGreatDoorLexCo
import Derived.Test.YtfiljgkcipnghaaGreatDoorParS
set_option linter.unusedVariables false
set_option linter.unusedSimpArgs false
namespace Go.Proofs.YtfiljgkcipnghaaGreatDoor.X
/-- The end is refused as the end, any other token by another number. -/
def GoodE (ts : List Tk) (e : PF) : Prop := (e.1 = 121 ∧ (ts.getD e.2 endT).kind = 0) ∨ ((e.1 = 120 ∨ e.1 = 122 ∨ e.1 = 124) ∧ ¬ (ts.getD e.2 endT).kind = 0)
def ErrK {α : Type} (ts : List Tk) (n : Nat) (f : PS → PR α) : Prop := ∀ S e, S.nest = n → f S = .error e → GoodE ts e
theorem wrong_good (ts : List Tk) (S : PS) : GoodE ts (wrongP ts S) := by
  unfold wrongP
  split
  · rename_i h; exact .inl ⟨rfl, h⟩
  · rename_i h; exact .inr ⟨.inl rfl, h⟩
theorem mark_good {ts : List Tk} {m : Bs} {S : PS} {e : PF} (h : markP ts m S = .error e) : GoodE ts e := by
  unfold markP at h; split at h
  · cases h
  · injection h with h; rw [← h]; exact wrong_good ts S
theorem open_good {ts : List Tk} {m : Bs} {S : PS} {e : PF} (h : openP ts m S = .error e) : GoodE ts e := by
  unfold openP at h; split at h
  · rename_i hi
    split at h
    · injection h with h; rw [← h]
      refine .inr ⟨.inr (.inl rfl), ?_⟩
      unfold isT pk at hi
      rw [Bool.and_eq_true] at hi
      have := eq_of_beq hi.1
      simp only
      rw [this]; decide
    · cases h
  · injection h with h; rw [← h]; exact wrong_good ts S
theorem shut_good {ts : List Tk} {S : PS} {e : PF} (h : shutP ts S = .error e) : GoodE ts e := by
  unfold shutP at h
  cases hm : markP ts [41] S with
  | error f => rw [hm] at h; injection h with h; rw [← h]; exact mark_good hm
  | ok S1 => rw [hm] at h; cases h
theorem text_good {ts : List Tk} {S : PS} {e : PF} (h : textP ts S = .error e) : GoodE ts e := by
  unfold textP at h; split at h
  · cases h
  · injection h with h; rw [← h]; exact wrong_good ts S
theorem loop_good {ts : List Tk} {k : Nat} {m : Bs} {one : PS → PR Nat} (h1 : ErrK ts k one) (h2 : FairF one) : ∀ (n : Nat) (kids : List Nat) (S : PS) (e : PF), S.nest = k → listLoop ts m one n kids S = .error e → GoodE ts e
  | 0, kids, S, e, hk, h => by cases h
  | n + 1, kids, S, e, hk, h => by
    simp only [listLoop] at h
    split at h
    · cases ho : one (on S) with
      | error f => rw [ho] at h; injection h with h; rw [← h]; exact h1 (on S) _ hk ho
      | ok p =>
        obtain ⟨i, S1⟩ := p
        rw [ho] at h
        exact loop_good h1 h2 n _ _ _ ((h2 _ _ _ ho).nest.trans hk) h
    · cases h
theorem list_good {ts : List Tk} {k : Nat} {m : Bs} {kind : Int} {one : PS → PR Nat} (h1 : ErrK ts k one) (h2 : FairF one) : ErrK ts k (listP ts m kind one) := by
  intro S e hk h
  unfold listP at h
  cases ho : one S with
  | error f => rw [ho] at h; injection h with h; rw [← h]; exact h1 _ _ hk ho
  | ok p =>
    obtain ⟨i, S1⟩ := p
    rw [ho] at h
    simp only at h
    cases hl : listLoop ts m one 5000 [i] S1 with
    | error f => rw [hl] at h; injection h with h; rw [← h]; exact loop_good h1 h2 _ _ _ _ ((h2 _ _ _ ho).nest.trans hk) hl
    | ok q =>
      obtain ⟨ks, S2⟩ := q
      rw [hl] at h
      simp only [listEnd] at h
      split at h
      · cases h
      · exact (put_err h).elim
structure LvGood (ts : List Tk) (n : Nat) (lo : Lv) : Prop where
  expr : ErrK ts n lo.expr
  unit : ErrK ts n lo.unit
  term : ErrK ts n lo.term
theorem scoped_good {ts : List Tk} {n : Nat} (hn : n ≤ 32) {lo : Lv} (hl : LvFair lo) (he : n < 32 → LvGood ts (n + 1) lo) (kind : Int) : ErrK ts n (scopedP ts lo kind) := by
  intro S e hk h
  unfold scopedP at h
  rcases then_err h with h | ⟨S1, h1, h⟩
  · exact open_good h
  obtain ⟨rfl, hn2⟩ := open_fair h1
  simp only [X.on] at hn2
  rcases bind_err h with h | ⟨key, S2, h2, h⟩
  · exact text_good h
  rw [text_fair h2] at h
  rcases then_err h with h | ⟨S3, h3, h⟩
  · exact mark_good h
  rw [mark_fair h3] at h
  rcases bind_err h with h | ⟨kid, S4, h4, h⟩
  · exact (he (by omega)).expr _ _ (by simp only [X.on]; omega) h
  rcases then_err h with h | ⟨S5, h5, h⟩
  · exact shut_good h
  · exact (put_err h).elim
theorem owned_good {ts : List Tk} {n : Nat} : ErrK ts n (ownedP ts) := by
  intro S e hk h
  unfold ownedP ownK ownN at h
  split at h
  · injection h with h; rw [← h]; exact wrong_good ts S
  split at h
  · rcases bind_err h with h | ⟨s, S2, h2, h⟩
    · exact text_good h
    rcases then_err h with h | ⟨S3, h3, h⟩
    · exact mark_good h
    · exact (put_err h).elim
  split at h
  · split at h
    · exact (put_err h).elim
    split at h
    · exact (put_err h).elim
    split at h
    · exact (put_err h).elim
    split at h
    · rcases then_err h with h | ⟨S3, h3, h⟩
      · exact mark_good h
      rcases bind_err h with h | ⟨s, S4, h4, h⟩
      · exact text_good h
      rcases then_err h with h | ⟨S5, h5, h⟩
      · exact mark_good h
      · exact (put_err h).elim
    · injection h with h; rw [← h]; exact wrong_good ts _
  · injection h with h; rw [← h]; exact wrong_good ts _
theorem setLoop_good {ts : List Tk} : ∀ (n : Nat) (kids : List Nat) (S : PS) (e : PF), setLoop ts n kids S = .error e → GoodE ts e
  | 0, kids, S, e, h => by cases h
  | n + 1, kids, S, e, h => by
    simp only [setLoop] at h
    split at h
    · cases h
    · rcases then_err h with h | ⟨S1, hs, h⟩
      · split at h
        · exact mark_good h
        · cases h
      split at h
      · injection h with h; rw [← h]; exact wrong_good ts _
      rename_i hk
      split at h
      · injection h with h; rw [← h]
        refine .inr ⟨.inr (.inr rfl), fun e0 => hk ⟨?_, ?_⟩⟩
        · unfold pk; simp only at e0; rw [e0]; decide
        · unfold pk; simp only at e0; rw [e0]; decide
      split at h
      · exact setLoop_good n _ _ _ h
      · exact setLoop_good n _ _ _ h
theorem set_good {ts : List Tk} {n : Nat} : ErrK ts n (setP ts) := by
  intro S e hk h
  unfold setP at h
  rcases then_err h with h | ⟨S1, h1, h⟩
  · exact mark_good h
  rcases bind_err h with h | ⟨ks, S2, h2, h⟩
  · exact setLoop_good _ _ _ _ h
  · exact (put_err h).elim
theorem term_good {ts : List Tk} {n : Nat} (hn : n ≤ 32) {lo : Lv} (hl : LvFair lo) (he : n < 32 → LvGood ts (n + 1) lo) : ErrK ts n (termP ts lo) := by
  intro S e hk h
  unfold termP at h
  simp only at h
  split at h
  · exact (put_err h).elim
  split at h
  · exact (put_err h).elim
  split at h
  · exact set_good _ _ hk h
  split at h
  · rcases then_err h with h | ⟨S1, h1, h⟩
    · exact open_good h
    obtain ⟨rfl, hn2⟩ := open_fair h1
    simp only [X.on] at hn2
    rcases bind_err h with h | ⟨kid, S2, h2, h⟩
    · exact (he (by omega)).term _ _ (by simp only [X.on]; omega) h
    rcases then_err h with h | ⟨S3, h3, h⟩
    · exact shut_good h
    · exact (put_err h).elim
  split at h
  · exact scoped_good hn hl he 20 _ _ hk h
  · exact owned_good _ _ hk h
theorem relation_good {ts : List Tk} {S : PS} {e : PF} (h : relationP ts S = .error e) : GoodE ts e := by
  unfold relationP at h
  repeat' split at h
  all_goals (first | cases h; done | (injection h with h; rw [← h]; exact wrong_good ts S))
theorem cmp_good {ts : List Tk} {n : Nat} (hn : n ≤ 32) {lo : Lv} (hl : LvFair lo) (he : n < 32 → LvGood ts (n + 1) lo) : ErrK ts n (cmpP ts lo) := by
  intro S e hk h
  unfold cmpP at h
  rcases bind_err h with h | ⟨l, S1, h1, h⟩
  · exact term_good hn hl he _ _ hk h
  have e1 := (term_fair hl _ _ _ h1).nest
  rcases bind_err h with h | ⟨kn, S2, h2, h⟩
  · exact relation_good h
  rw [relation_fair h2] at h
  rcases bind_err h with h | ⟨r, S3, h3, h⟩
  · exact term_good hn hl he _ _ (by simp only [X.on]; omega) h
  · exact (put_err h).elim
theorem atom_good {ts : List Tk} {n : Nat} (hn : n ≤ 32) {lo : Lv} (hl : LvFair lo) (he : n < 32 → LvGood ts (n + 1) lo) : ErrK ts n (atomP ts lo) := by
  intro S e hk h
  unfold atomP at h
  simp only at h
  split at h
  · split at h
    · exact (put_err h).elim
    split at h
    · exact (put_err h).elim
    split at h
    · exact scoped_good hn hl he 8 _ _ hk h
    split at h
    · exact scoped_good hn hl he 9 _ _ hk h
    split at h
    · rcases then_err h with h | ⟨S1, h1, h⟩
      · exact mark_good h
      rcases bind_err h with h | ⟨s, S2, h2, h⟩
      · exact text_good h
      rcases then_err h with h | ⟨S3, h3, h⟩
      · exact mark_good h
      · exact (put_err h).elim
    · exact cmp_good hn hl he _ _ hk h
  · exact cmp_good hn hl he _ _ hk h
theorem unit_good {ts : List Tk} {n : Nat} (hn : n ≤ 32) {lo : Lv} (hl : LvFair lo) (he : n < 32 → LvGood ts (n + 1) lo) : ErrK ts n (unitP ts lo) := by
  intro S e hk h
  unfold unitP at h
  split at h
  · rcases then_err h with h | ⟨S1, h1, h⟩
    · exact open_good h
    obtain ⟨rfl, hn2⟩ := open_fair h1
    rcases bind_err h with h | ⟨kid, S2, h2, h⟩
    · exact (he (by omega)).unit _ _ (by simp only; omega) h
    · exact (put_err h).elim
  split at h
  · rcases then_err h with h | ⟨S1, h1, h⟩
    · exact open_good h
    obtain ⟨rfl, hn2⟩ := open_fair h1
    rcases bind_err h with h | ⟨kid, S2, h2, h⟩
    · exact (he (by omega)).expr _ _ (by simp only; omega) h
    rcases then_err h with h | ⟨S3, h3, h⟩
    · exact shut_good h
    · cases h
  · exact atom_good hn hl he _ _ hk h
theorem level_good {ts : List Tk} {n : Nat} (hn : n ≤ 32) {lo : Lv} (hl : LvFair lo) (he : n < 32 → LvGood ts (n + 1) lo) : LvGood ts n ⟨exprP ts lo, unitP ts lo, termP ts lo⟩ :=
  ⟨list_good (list_good (unit_good hn hl he) (unit_fair hl)) (conj_fair hl), unit_good hn hl he, term_good hn hl he⟩
theorem lv_good (ts : List Tk) : ∀ d, d ≤ 32 → LvGood ts (32 - d) (lv ts d)
  | 0, _ => level_good (Nat.le_refl _) noLv_fair (fun h => absurd h (by omega))
  | d + 1, h => level_good (by omega) (lv_fair ts d) (fun _ => by
      rw [show 32 - (d + 1) + 1 = 32 - d by omega]
      exact lv_good ts d (by omega))
/-- What a row of tokens is refused for. -/
theorem tree_err {ts : List Tk} {e : PF} (h : treeOf ts = .error e) : GoodE ts e ∨ (e.1 = 123 ∧ ∃ i S, (lv ts 32).expr ⟨0, 0, [], []⟩ = .ok (i, S) ∧ (pk ts S).kind = 0 ∧ 1000 < S.parts.length ∧ e.2 = S.offs.getD 1000 0) := by
  unfold treeOf at h
  cases hx : (lv ts 32).expr ⟨0, 0, [], []⟩ with
  | error f =>
    rw [hx] at h; injection h with h; rw [← h]
    exact .inl ((lv_good ts 32 (Nat.le_refl _)).expr _ _ rfl hx)
  | ok p =>
    obtain ⟨i, S⟩ := p
    rw [hx] at h
    simp only at h
    split at h
    · rename_i hk
      split at h
      · rename_i hb
        injection h with h; rw [← h]
        exact .inr ⟨rfl, i, S, rfl, hk, hb, rfl⟩
      · cases h
    · injection h with h; rw [← h]; exact .inl (wrong_good ts S)

end Go.Proofs.YtfiljgkcipnghaaGreatDoor.X
set_option linter.unusedVariables false
set_option linter.unusedSimpArgs false
namespace Go.Proofs.YtfiljgkcipnghaaGreatDoor.X
theorem chain_in {l : Bs} {i : Nat} {ts : List Tk} (h : Chain l i ts) : ∀ (a : Nat) (ha : a < ts.length), ¬ ts[a].kind = 0 → ts[a].at_ < ts[a].end_ ∧ ts[a].end_ ≤ l.length := by
  induction h with
  | fin i hi hs => intro a ha hk; simp at ha; subst ha; exact absurd rfl hk
  | cons i t ts hi ht hk ha hl he hc ih =>
    intro a haa hka
    cases a with
    | zero => exact ⟨hl, he⟩
    | succ a => exact ih a (by simpa using haa) hka
theorem getD_in {ts : List Tk} {j : Nat} (h : ¬ (ts.getD j endT).kind = 0) : ∃ hj : j < ts.length, ts.getD j endT = ts[j] := by
  rcases Nat.lt_or_ge j ts.length with h1 | h1
  · exact ⟨h1, by rw [List.getD_eq_getElem?_getD, List.getElem?_eq_getElem h1]; rfl⟩
  · rw [List.getD_eq_getElem?_getD, List.getElem?_eq_none h1] at h; exact absurd rfl h

end Go.Proofs.YtfiljgkcipnghaaGreatDoor.X
set_option linter.unusedVariables false
set_option linter.unusedSimpArgs false
namespace Go.Proofs.YtfiljgkcipnghaaGreatDoor.X
/-- So many kids has a part of this kind. -/
def shapeB (kind : Int) (n : Nat) : Bool :=
  if kind = 3 ∨ kind = 8 ∨ kind = 9 ∨ kind = 19 ∨ kind = 20 then n == 1 else if kind = 4 ∨ kind = 5 then decide (2 ≤ n) else if kind = 6 ∨ kind = 7 then n == 2 else if kind = 13 then decide (n ≤ 64) else n == 0
def fitsP (free : List Nat) (p : PD) : Prop := p.kids.length ≤ free.length ∧ free.drop (free.length - p.kids.length) = p.kids ∧ p.text.length ≤ 127 ∧ shapeB p.kind p.kids.length = true
instance (free : List Nat) (p : PD) : Decidable (fitsP free p) := by unfold fitsP; infer_instance
/-- The parts that are still free, behind this one. -/
def stepF (free : List Nat) (i : Nat) (p : PD) : Option (List Nat) := if fitsP free p then some (free.take (free.length - p.kids.length) ++ [i]) else none
def runF : List Nat → Nat → List PD → Option (List Nat)
  | free, _, [] => some free
  | free, i, p :: ps => match stepF free i p with
    | none => none
    | some f => runF f (i + 1) ps
theorem runF_append : ∀ (ps qs : List PD) (free f : List Nat) (i : Nat), runF free i ps = some f → runF free i (ps ++ qs) = runF f (i + ps.length) qs
  | [], qs, free, f, i, h => by injection h with h; subst h; rfl
  | p :: ps, qs, free, f, i, h => by
    simp only [List.cons_append, runF] at h ⊢
    cases hs : stepF free i p with
    | none => rw [hs] at h; cases h
    | some g =>
      rw [hs] at h
      simp only at h ⊢
      rw [runF_append ps qs g f (i + 1) h, List.length_cons]
      congr 1; omega
/-- A part may begin with this token. -/
def beginsT (p : PD) (t : Tk) : Prop :=
  (p.kind = 3 ∧ t.kind = 4 ∧ t.text = [33]) ∨ (p.kind = 4 ∧ t.kind = 4 ∧ t.text = [38, 38]) ∨ (p.kind = 5 ∧ t.kind = 4 ∧ t.text = [124, 124]) ∨
  (p.kind = 6 ∧ t.kind = 4 ∧ (t.text = [61, 61] ∨ t.text = [33, 61] ∨ t.text = [60] ∨ t.text = [60, 61] ∨ t.text = [62] ∨ t.text = [62, 61])) ∨
  (p.kind = 7 ∧ t.kind = 3 ∧ (p.num = 0 ∧ t.text = [105, 110] ∨ p.num = 1 ∧ t.text = [110, 111, 116, 105, 110])) ∨
  (p.kind = 13 ∧ t.kind = 4 ∧ t.text = [123]) ∨ (p.kind = 11 ∧ t.kind = 1) ∨ (p.kind = 12 ∧ t.kind = 2) ∨
  (p.kind = 1 ∧ t.kind = 3 ∧ t.text = [116, 114, 117, 101]) ∨ (p.kind = 10 ∧ t.kind = 3 ∧ t.text = [116, 111, 108, 101, 114, 97, 116, 101, 100]) ∨
  (p.kind = 2 ∧ t.kind = 3 ∧ t.text = [102, 97, 108, 115, 101]) ∨ (p.kind = 8 ∧ t.kind = 3 ∧ t.text = [110, 101, 97, 114]) ∨ (p.kind = 9 ∧ t.kind = 3 ∧ t.text = [97, 112, 97, 114, 116]) ∨
  (p.kind = 19 ∧ t.kind = 3 ∧ t.text = [105, 110, 116]) ∨ (p.kind = 20 ∧ t.kind = 3 ∧ t.text = [99, 111, 117, 110, 116]) ∨
  ((p.kind = 14 ∨ p.kind = 15 ∨ p.kind = 16 ∨ p.kind = 17 ∨ p.kind = 18) ∧ t.kind = 3 ∧ sideP t.text = p.num ∧ ¬ p.num = 0)
/-- From S on parts have come that leave these free. -/
def Bd (ts : List Tk) (S S' : PS) (xs : List Nat) : Prop := S.pos ≤ S'.pos ∧ ∃ new offs, S'.parts = S.parts ++ new ∧ S'.offs = S.offs ++ offs ∧ new.length = offs.length ∧ (∀ F, runF F S.parts.length new = some (F ++ xs)) ∧
  ∀ q ∈ new.zip offs, S.pos ≤ q.2 ∧ q.2 < S'.pos ∧ beginsT q.1 (ts.getD q.2 endT)
theorem Bd.still {ts : List Tk} {S S' : PS} (h1 : S'.parts = S.parts) (h2 : S'.offs = S.offs) (h3 : S.pos ≤ S'.pos) : Bd ts S S' [] :=
  ⟨h3, [], [], by simp [h1], by simp [h2], rfl, fun F => by simp [runF], fun q hq => by cases hq⟩
theorem Bd.trans {ts : List Tk} {A B C : PS} {xs bs : List Nat} (h : Bd ts A B xs) (k : Bd ts B C bs) : Bd ts A C (xs ++ bs) := by
  obtain ⟨h0, n1, o1, h1, h2, h3, h4, h5⟩ := h
  obtain ⟨k0, n2, o2, k1, k2, k3, k4, k5⟩ := k
  refine ⟨by omega, n1 ++ n2, o1 ++ o2, by rw [k1, h1, List.append_assoc], by rw [k2, h2, List.append_assoc], by simp [h3, k3], fun F => ?_, fun q hq => ?_⟩
  · rw [runF_append _ _ _ _ _ (h4 F)]
    have := k4 (F ++ xs)
    rw [h1, List.length_append] at this
    rw [this, List.append_assoc]
  · rw [List.zip_append h3] at hq
    rcases List.mem_append.1 hq with hq | hq
    · have := h5 q hq; exact ⟨this.1, by omega, this.2.2⟩
    · have := k5 q hq; exact ⟨by omega, this.2.1, this.2.2⟩
theorem Bd.to {ts : List Tk} {A B C : PS} {xs : List Nat} (h : Bd ts A B xs) (h1 : C.parts = B.parts) (h2 : C.offs = B.offs) (h3 : B.pos ≤ C.pos) : Bd ts A C xs := by
  have := h.trans (Bd.still (ts := ts) h1 h2 h3); rwa [List.append_nil] at this
theorem Bd.from {ts : List Tk} {A B C : PS} {xs : List Nat} (h : Bd ts B C xs) (h1 : B.parts = A.parts) (h2 : B.offs = A.offs) (h3 : A.pos ≤ B.pos) : Bd ts A C xs := (Bd.still (ts := ts) h1 h2 h3).trans h
theorem Bd.put {ts : List Tk} {A B : PS} {kids : List Nat} (h : Bd ts A B kids) {a : Nat} {p : PD} (hk : p.kids = kids) (ht : p.text.length ≤ 127) (hs : shapeB p.kind p.kids.length = true) (h1 : A.pos ≤ a) (h2 : a < B.pos) (hb : beginsT p (ts.getD a endT)) : Bd ts A (putS a p B) [B.parts.length] := by
  obtain ⟨h0, n1, o1, e1, e2, e3, e4, e5⟩ := h
  subst hk
  refine ⟨h0, n1 ++ [p], o1 ++ [a], by simp [putS, e1], by simp [putS, e2], by simp [e3], fun F => ?_, fun q hq => ?_⟩
  · rw [runF_append _ _ _ _ _ (e4 F)]
    have hf : fitsP (F ++ p.kids) p := ⟨by simp, by rw [List.length_append, Nat.add_sub_cancel, List.drop_left], ht, hs⟩
    simp only [runF, stepF, if_pos hf]
    rw [List.length_append, Nat.add_sub_cancel, List.take_left, e1, List.length_append]
  · rw [List.zip_append e3] at hq
    rcases List.mem_append.1 hq with hq | hq
    · exact e5 q hq
    · simp only [List.zip_cons_cons, List.zip_nil_right, List.mem_singleton] at hq
      subst hq
      exact ⟨h1, h2, hb⟩
def Builds (ts : List Tk) (f : PS → PR Nat) : Prop := ∀ S a S', f S = .ok (a, S') → Bd ts S S' [a]
/-- A text is short. -/
def Short (ts : List Tk) : Prop := ∀ i, (ts.getD i endT).kind = 1 → (ts.getD i endT).text.length ≤ 127
theorem is_tok {ts : List Tk} {S : PS} {k : Int} {m : Bs} (h : isT ts S k m = true) : (ts.getD S.pos endT).kind = k ∧ (ts.getD S.pos endT).text = m := by
  unfold isT pk at h; rw [Bool.and_eq_true] at h; exact ⟨eq_of_beq h.1, eq_of_beq h.2⟩
theorem text_short {ts : List Tk} (hs : Short ts) {S S' : PS} {s : Bs} (h : textP ts S = .ok (s, S')) : s.length ≤ 127 ∧ S' = on S := by
  unfold textP at h
  split at h
  · rename_i hk
    injection h with h; injection h with h1 h2
    exact ⟨by rw [← h1]; exact hs _ hk, h2.symm⟩
  · cases h
theorem loop_builds {ts : List Tk} {m : Bs} {one : PS → PR Nat} (h1 : Builds ts one) : ∀ (n : Nat) (kids : List Nat) (S : PS) (ks : List Nat) (S' : PS), listLoop ts m one n kids S = .ok (ks, S') → ∃ more, ks = kids ++ more ∧ Bd ts S S' more ∧ (more ≠ [] → isT ts S 4 m = true ∧ S.pos < S'.pos)
  | 0, kids, S, ks, S', h => by cases h; exact ⟨[], by simp, Bd.still rfl rfl (Nat.le_refl _), fun e => absurd rfl e⟩
  | n + 1, kids, S, ks, S', h => by
    simp only [listLoop] at h
    split at h
    · rename_i hi
      cases ho : one (on S) with
      | error f => rw [ho] at h; cases h
      | ok p =>
        obtain ⟨i, S1⟩ := p
        rw [ho] at h
        obtain ⟨more, e1, e2, _⟩ := loop_builds h1 n _ _ _ _ h
        have hb := (h1 _ _ _ ho).from (A := S) rfl rfl (by simp [X.on])
        refine ⟨i :: more, by rw [e1]; simp, by simpa using hb.trans e2, fun _ => ⟨hi, ?_⟩⟩
        have a1 := (h1 _ _ _ ho).1
        have a2 := e2.1
        simp only [X.on] at a1
        omega
    · cases h; exact ⟨[], by simp, Bd.still rfl rfl (Nat.le_refl _), fun e => absurd rfl e⟩
theorem list_builds {ts : List Tk} {m : Bs} {kind : Int} (hk : kind = 4 ∧ m = [38, 38] ∨ kind = 5 ∧ m = [124, 124]) {one : PS → PR Nat} (h1 : Builds ts one) : Builds ts (listP ts m kind one) := by
  intro S a S' h
  unfold listP at h
  cases ho : one S with
  | error f => rw [ho] at h; cases h
  | ok p =>
    obtain ⟨i, S1⟩ := p
    rw [ho] at h
    simp only at h
    cases hl : listLoop ts m one 5000 [i] S1 with
    | error f => rw [hl] at h; cases h
    | ok q =>
      obtain ⟨ks, S2⟩ := q
      rw [hl] at h
      obtain ⟨more, rfl, e2, e3⟩ := loop_builds h1 _ _ _ _ _ hl
      simp only [listEnd] at h
      have hb := (h1 _ _ _ ho).trans e2
      split at h
      · rename_i hlen
        cases h
        have : more = [] := List.eq_nil_of_length_eq_zero (by simpa using hlen)
        subst this
        simpa using hb
      · rename_i hlen
        obtain ⟨rfl, rfl⟩ := put_ok h
        have hne : more ≠ [] := fun e => hlen (by rw [e]; rfl)
        obtain ⟨f1, f2⟩ := e3 hne
        obtain ⟨t1, t2⟩ := is_tok f1
        have hml : 1 ≤ more.length := List.length_pos_iff.2 hne
        have a1 := (h1 _ _ _ ho).1
        refine hb.put rfl (by simp) ?_ a1 f2 ?_
        · rcases hk with ⟨rfl, _⟩ | ⟨rfl, _⟩ <;> simp [shapeB] <;> omega
        · rcases hk with ⟨rfl, rfl⟩ | ⟨rfl, rfl⟩
          · exact .inr (.inl ⟨rfl, t1, t2⟩)
          · exact .inr (.inr (.inl ⟨rfl, t1, t2⟩))
structure LvBuilds (ts : List Tk) (lo : Lv) : Prop where
  expr : Builds ts lo.expr
  unit : Builds ts lo.unit
  term : Builds ts lo.term
theorem scoped_builds {ts : List Tk} (hs : Short ts) {lo : Lv} (hl : LvBuilds ts lo) (kind : Int) (hk : kind = 8 ∨ kind = 9 ∨ kind = 20) {S : PS} (ht : beginsT ⟨kind, [], 0, []⟩ (ts.getD S.pos endT)) {a : Nat} {S' : PS} (h : scopedP ts lo kind S = .ok (a, S')) : Bd ts S S' [a] := by
  unfold scopedP at h
  obtain ⟨S1, h1, h⟩ := then_ok h
  obtain ⟨key, S2, h2, h⟩ := bind_ok h
  obtain ⟨S3, h3, h⟩ := then_ok h
  obtain ⟨kid, S4, h4, h⟩ := bind_ok h
  obtain ⟨S5, h5, h⟩ := then_ok h
  obtain ⟨rfl, rfl⟩ := put_ok h
  obtain ⟨rfl, hn⟩ := open_fair h1
  obtain ⟨hks, rfl⟩ := text_short hs h2
  rw [mark_fair h3] at h4
  have hb := hl.expr _ _ _ h4
  rw [shut_fair h5]
  have hp := hb.1
  simp only [X.on] at hp
  refine Bd.put ?_ rfl ?_ ?_ ?_ ?_ ?_
  · exact (hb.from (A := S) rfl rfl (by simp only [X.on]; omega)).to rfl rfl (by simp only [closeN, X.on]; omega)
  · exact hks
  · rcases hk with rfl | rfl | rfl <;> rfl
  · exact Nat.le_refl _
  · simp only [closeN, X.on]; omega
  · unfold beginsT at ht ⊢; exact ht
theorem owned_builds {ts : List Tk} (hs : Short ts) : Builds ts (ownedP ts) := by
  intro S a S' h
  unfold ownedP at h
  split at h
  · cases h
  · rename_i hk
    have hk3 : (ts.getD S.pos endT).kind = 3 := Classical.byContradiction fun e => hk (.inl e)
    have hs0 : ¬ sideP (ts.getD S.pos endT).text = 0 := fun e => hk (.inr e)
    have hb : ∀ kind text, (kind = 14 ∨ kind = 15 ∨ kind = 16 ∨ kind = 17 ∨ kind = 18) → beginsT ⟨kind, text, sideP (pk ts S).text, []⟩ (ts.getD S.pos endT) := fun kind text hkd => by
      iterate 15 right
      exact ⟨hkd, hk3, rfl, hs0⟩
    unfold ownK ownN at h
    split at h
    · obtain ⟨s, S2, h2, h⟩ := bind_ok h
      obtain ⟨S3, h3, h⟩ := then_ok h
      obtain ⟨rfl, rfl⟩ := put_ok h
      obtain ⟨hks, rfl⟩ := text_short hs h2
      rw [mark_fair h3]
      refine Bd.put (kids := []) ?_ rfl ?_ rfl (Nat.le_refl _) ?_ (hb 14 _ (by simp))
      · exact Bd.still rfl rfl (by simp only [X.on]; omega)
      · exact hks
      · simp only [X.on]; omega
    split at h
    · split at h
      · obtain ⟨rfl, rfl⟩ := put_ok h
        refine Bd.put (kids := []) ?_ rfl ?_ rfl (Nat.le_refl _) ?_ (hb 15 _ (by simp))
        · exact Bd.still rfl rfl (by simp only [X.on]; omega)
        · simp
        · simp only [X.on]; omega
      split at h
      · obtain ⟨rfl, rfl⟩ := put_ok h
        refine Bd.put (kids := []) ?_ rfl ?_ rfl (Nat.le_refl _) ?_ (hb 16 _ (by simp))
        · exact Bd.still rfl rfl (by simp only [X.on]; omega)
        · simp
        · simp only [X.on]; omega
      split at h
      · obtain ⟨rfl, rfl⟩ := put_ok h
        refine Bd.put (kids := []) ?_ rfl ?_ rfl (Nat.le_refl _) ?_ (hb 17 _ (by simp))
        · exact Bd.still rfl rfl (by simp only [X.on]; omega)
        · simp
        · simp only [X.on]; omega
      split at h
      · obtain ⟨S3, h3, h⟩ := then_ok h
        obtain ⟨s, S4, h4, h⟩ := bind_ok h
        obtain ⟨S5, h5, h⟩ := then_ok h
        obtain ⟨rfl, rfl⟩ := put_ok h
        rw [mark_fair h3] at h4
        obtain ⟨hks, rfl⟩ := text_short hs h4
        rw [mark_fair h5]
        refine Bd.put (kids := []) ?_ rfl ?_ rfl (Nat.le_refl _) ?_ (hb 18 _ (by simp))
        · exact Bd.still rfl rfl (by simp only [X.on]; omega)
        · exact hks
        · simp only [X.on]; omega
      · cases h
    · cases h

end Go.Proofs.YtfiljgkcipnghaaGreatDoor.X
set_option linter.unusedVariables false
set_option linter.unusedSimpArgs false
namespace Go.Proofs.YtfiljgkcipnghaaGreatDoor.X
theorem setLoop_builds {ts : List Tk} (hs : Short ts) : ∀ (n : Nat) (kids : List Nat) (S : PS) (ks : List Nat) (S' : PS), kids.length ≤ 64 → setLoop ts n kids S = .ok (ks, S') → ∃ more, ks = kids ++ more ∧ Bd ts S S' more ∧ ks.length ≤ 64
  | 0, kids, S, ks, S', hk, h => by cases h; exact ⟨[], by simp, Bd.still rfl rfl (Nat.le_refl _), hk⟩
  | n + 1, kids, S, ks, S', hk, h => by
    simp only [setLoop] at h
    split at h
    · cases h; exact ⟨[], by simp, Bd.still rfl rfl (Nat.le_refl _), hk⟩
    · obtain ⟨S1, h1, h⟩ := then_ok h
      have hb0 : Bd ts S S1 [] := by
        split at h1
        · rw [mark_fair h1]; exact Bd.still rfl rfl (by simp only [X.on]; omega)
        · injection h1 with h1; rw [← h1]; exact Bd.still rfl rfl (Nat.le_refl _)
      split at h
      · cases h
      rename_i hkd
      split at h
      · cases h
      rename_i h64
      split at h
      · rename_i h1k
        obtain ⟨more, e1, e2, e3⟩ := setLoop_builds hs n _ _ _ _ (by simp; omega) h
        have hp : Bd ts S (putS S1.pos ⟨11, (pk ts S1).text, 0, []⟩ (on S1)) [S1.parts.length] := by
          refine Bd.put (kids := []) ?_ rfl ?_ rfl hb0.1 ?_ ?_
          · exact hb0.to rfl rfl (by simp only [X.on]; omega)
          · exact hs _ h1k
          · simp only [X.on]; omega
          · iterate 6 right
            left; exact ⟨rfl, h1k⟩
        exact ⟨S1.parts.length :: more, by rw [e1]; simp, hp.trans e2, e3⟩
      · rename_i h1k
        have h2k : (pk ts S1).kind = 2 := Classical.byContradiction fun e => hkd ⟨h1k, e⟩
        obtain ⟨more, e1, e2, e3⟩ := setLoop_builds hs n _ _ _ _ (by simp; omega) h
        have hp : Bd ts S (putS S1.pos ⟨12, [], (pk ts S1).num, []⟩ (on S1)) [S1.parts.length] := by
          refine Bd.put (kids := []) ?_ rfl ?_ rfl hb0.1 ?_ ?_
          · exact hb0.to rfl rfl (by simp only [X.on]; omega)
          · simp
          · simp only [X.on]; omega
          · iterate 7 right
            left; exact ⟨rfl, h2k⟩
        exact ⟨S1.parts.length :: more, by rw [e1]; simp, hp.trans e2, e3⟩
theorem set_builds {ts : List Tk} (hs : Short ts) : Builds ts (setP ts) := by
  intro S a S' h
  unfold setP at h
  obtain ⟨S1, h1, h⟩ := then_ok h
  obtain ⟨ks, S2, h2, h⟩ := bind_ok h
  obtain ⟨rfl, rfl⟩ := put_ok h
  have hi : isT ts S 4 [123] = true := by unfold markP at h1; split at h1 <;> first | assumption | cases h1
  rw [mark_fair h1] at h2
  obtain ⟨t1, t2⟩ := is_tok hi
  obtain ⟨more, e1, e2, e3⟩ := setLoop_builds hs _ _ _ _ _ (by simp) h2
  rw [List.nil_append] at e1
  subst e1
  have hp := e2.1
  simp only [X.on] at hp
  refine Bd.put ?_ rfl ?_ ?_ (Nat.le_refl _) ?_ ?_
  · exact (e2.from (A := S) rfl rfl (by simp only [X.on]; omega)).to rfl rfl (by simp only [X.on]; omega)
  · simp
  · simp [shapeB]; omega
  · simp only [X.on]; omega
  · iterate 5 right
    left; exact ⟨rfl, t1, t2⟩
theorem term_builds {ts : List Tk} (hs : Short ts) {lo : Lv} (hl : LvBuilds ts lo) : Builds ts (termP ts lo) := by
  intro S a S' h
  unfold termP at h
  simp only at h
  split at h
  · rename_i hk
    obtain ⟨rfl, rfl⟩ := put_ok h
    refine Bd.put (kids := []) ?_ rfl ?_ rfl (Nat.le_refl _) ?_ ?_
    · exact Bd.still rfl rfl (by simp only [X.on]; omega)
    · exact hs _ hk
    · simp only [X.on]; omega
    · iterate 6 right
      left; exact ⟨rfl, hk⟩
  split at h
  · rename_i hk
    obtain ⟨rfl, rfl⟩ := put_ok h
    refine Bd.put (kids := []) ?_ rfl ?_ rfl (Nat.le_refl _) ?_ ?_
    · exact Bd.still rfl rfl (by simp only [X.on]; omega)
    · simp
    · simp only [X.on]; omega
    · iterate 7 right
      left; exact ⟨rfl, hk⟩
  split at h
  · exact set_builds hs _ _ _ h
  split at h
  · rename_i hi
    obtain ⟨t1, t2⟩ := is_tok hi
    obtain ⟨S1, h1, h⟩ := then_ok h
    obtain ⟨kid, S2, h2, h⟩ := bind_ok h
    obtain ⟨S3, h3, h⟩ := then_ok h
    obtain ⟨rfl, rfl⟩ := put_ok h
    obtain ⟨rfl, hn⟩ := open_fair h1
    have hb := hl.term _ _ _ h2
    rw [shut_fair h3]
    have hp := hb.1
    simp only [X.on] at hp
    refine Bd.put ?_ rfl ?_ rfl (Nat.le_refl _) ?_ ?_
    · exact (hb.from (A := S) rfl rfl (by simp only [X.on]; omega)).to rfl rfl (by simp only [closeN, X.on]; omega)
    · simp
    · simp only [closeN, X.on]; omega
    · iterate 13 right
      left; exact ⟨rfl, t1, t2⟩
  split at h
  · rename_i hi
    obtain ⟨t1, t2⟩ := is_tok hi
    refine scoped_builds hs hl 20 (by simp) ?_ h
    iterate 14 right
    left; exact ⟨rfl, t1, t2⟩
  · exact owned_builds hs _ _ _ h
theorem relation_begins {ts : List Tk} {S S' : PS} {kn : Int × Int} (h : relationP ts S = .ok (kn, S')) : S' = on S ∧ (kn.1 = 6 ∨ kn.1 = 7) ∧ ∀ kids, beginsT ⟨kn.1, [], kn.2, kids⟩ (ts.getD S.pos endT) := by
  have h6 : ∀ (m : Bs) (n : Int), isT ts S 4 m = true → (m = [61, 61] ∨ m = [33, 61] ∨ m = [60] ∨ m = [60, 61] ∨ m = [62] ∨ m = [62, 61]) → ∀ kids, beginsT ⟨6, [], n, kids⟩ (ts.getD S.pos endT) := fun m n hi hm kids => by
    obtain ⟨t1, t2⟩ := is_tok hi
    iterate 3 right
    left
    exact ⟨rfl, t1, by rw [t2]; exact hm⟩
  unfold relationP at h
  split at h
  · rename_i hi; cases h; exact ⟨rfl, .inl rfl, h6 _ _ hi (by simp)⟩
  split at h
  · rename_i hi; cases h; exact ⟨rfl, .inl rfl, h6 _ _ hi (by simp)⟩
  split at h
  · rename_i hi; cases h; exact ⟨rfl, .inl rfl, h6 _ _ hi (by simp)⟩
  split at h
  · rename_i hi; cases h; exact ⟨rfl, .inl rfl, h6 _ _ hi (by simp)⟩
  split at h
  · rename_i hi; cases h; exact ⟨rfl, .inl rfl, h6 _ _ hi (by simp)⟩
  split at h
  · rename_i hi; cases h; exact ⟨rfl, .inl rfl, h6 _ _ hi (by simp)⟩
  split at h
  · rename_i hi; cases h
    obtain ⟨t1, t2⟩ := is_tok hi
    exact ⟨rfl, .inr rfl, fun kids => by iterate 4 right
                                         left; exact ⟨rfl, t1, .inl ⟨rfl, t2⟩⟩⟩
  split at h
  · rename_i hi; cases h
    obtain ⟨t1, t2⟩ := is_tok hi
    exact ⟨rfl, .inr rfl, fun kids => by iterate 4 right
                                         left; exact ⟨rfl, t1, .inr ⟨rfl, t2⟩⟩⟩
  · cases h
theorem cmp_builds {ts : List Tk} (hs : Short ts) {lo : Lv} (hl : LvBuilds ts lo) : Builds ts (cmpP ts lo) := by
  intro S a S' h
  unfold cmpP at h
  obtain ⟨l, S1, h1, h⟩ := bind_ok h
  obtain ⟨kn, S2, h2, h⟩ := bind_ok h
  obtain ⟨r, S3, h3, h⟩ := bind_ok h
  obtain ⟨rfl, rfl⟩ := put_ok h
  obtain ⟨rfl, hk, hb⟩ := relation_begins h2
  have b1 := term_builds hs hl _ _ _ h1
  have b2 := (term_builds hs hl _ _ _ h3).from (A := S1) rfl rfl (by simp only [X.on]; omega)
  have p2 := (term_builds hs hl _ _ _ h3).1
  simp only [X.on] at p2
  refine Bd.put (b1.trans b2) rfl ?_ ?_ b1.1 ?_ (hb _)
  · simp
  · rcases hk with e | e <;> simp [shapeB, e]
  · omega
theorem atom_builds {ts : List Tk} (hs : Short ts) {lo : Lv} (hl : LvBuilds ts lo) : Builds ts (atomP ts lo) := by
  intro S a S' h
  unfold atomP at h
  simp only at h
  split at h
  · rename_i hk
    split at h
    · rename_i hx
      obtain ⟨rfl, rfl⟩ := put_ok h
      refine Bd.put (kids := []) ?_ rfl ?_ rfl (Nat.le_refl _) ?_ ?_
      · exact Bd.still rfl rfl (by simp only [X.on]; omega)
      · simp
      · simp only [X.on]; omega
      · iterate 8 right
        left; exact ⟨rfl, hk, hx⟩
    split at h
    · rename_i hx
      obtain ⟨rfl, rfl⟩ := put_ok h
      refine Bd.put (kids := []) ?_ rfl ?_ rfl (Nat.le_refl _) ?_ ?_
      · exact Bd.still rfl rfl (by simp only [X.on]; omega)
      · simp
      · simp only [X.on]; omega
      · iterate 10 right
        left; exact ⟨rfl, hk, hx⟩
    split at h
    · rename_i hx
      refine scoped_builds hs hl 8 (by simp) ?_ h
      iterate 11 right
      left; exact ⟨rfl, hk, hx⟩
    split at h
    · rename_i hx
      refine scoped_builds hs hl 9 (by simp) ?_ h
      iterate 12 right
      left; exact ⟨rfl, hk, hx⟩
    split at h
    · rename_i hx
      obtain ⟨S1, h1, h⟩ := then_ok h
      obtain ⟨s, S2, h2, h⟩ := bind_ok h
      obtain ⟨S3, h3, h⟩ := then_ok h
      obtain ⟨rfl, rfl⟩ := put_ok h
      rw [mark_fair h1] at h2
      obtain ⟨hks, rfl⟩ := text_short hs h2
      rw [mark_fair h3]
      refine Bd.put (kids := []) ?_ rfl hks rfl (Nat.le_refl _) ?_ ?_
      · exact Bd.still rfl rfl (by simp only [X.on]; omega)
      · simp only [X.on]; omega
      · iterate 9 right
        left; exact ⟨rfl, hk, hx⟩
    · exact cmp_builds hs hl _ _ _ h
  · exact cmp_builds hs hl _ _ _ h
theorem unit_builds {ts : List Tk} (hs : Short ts) {lo : Lv} (hl : LvBuilds ts lo) : Builds ts (unitP ts lo) := by
  intro S a S' h
  unfold unitP at h
  split at h
  · rename_i hi
    obtain ⟨t1, t2⟩ := is_tok hi
    obtain ⟨S1, h1, h⟩ := then_ok h
    obtain ⟨kid, S2, h2, h⟩ := bind_ok h
    obtain ⟨rfl, rfl⟩ := put_ok h
    obtain ⟨rfl, hn⟩ := open_fair h1
    have hb := hl.unit _ _ _ h2
    have hp := hb.1
    simp only at hp
    refine Bd.put ?_ rfl ?_ rfl (Nat.le_refl _) ?_ ?_
    · exact (hb.from (A := S) rfl rfl (by simp only; omega)).to rfl rfl (by simp only [closeN]; omega)
    · simp
    · simp only [closeN]; omega
    · left; exact ⟨rfl, t1, t2⟩
  split at h
  · obtain ⟨S1, h1, h⟩ := then_ok h
    obtain ⟨kid, S2, h2, h⟩ := bind_ok h
    obtain ⟨S3, h3, h⟩ := then_ok h
    cases h
    obtain ⟨rfl, hn⟩ := open_fair h1
    have hb := hl.expr _ _ _ h2
    rw [shut_fair h3]
    exact (hb.from (A := S) rfl rfl (by simp only; omega)).to rfl rfl (by simp only [closeN, X.on]; omega)
  · exact atom_builds hs hl _ _ _ h
theorem level_builds {ts : List Tk} (hs : Short ts) {lo : Lv} (hl : LvBuilds ts lo) : LvBuilds ts ⟨exprP ts lo, unitP ts lo, termP ts lo⟩ :=
  ⟨list_builds (.inr ⟨rfl, rfl⟩) (list_builds (.inl ⟨rfl, rfl⟩) (unit_builds hs hl)), unit_builds hs hl, term_builds hs hl⟩
theorem lv_builds {ts : List Tk} (hs : Short ts) : ∀ d, LvBuilds ts (lv ts d)
  | 0 => level_builds hs ⟨(fun S a S' h => by cases h), (fun S a S' h => by cases h), (fun S a S' h => by cases h)⟩
  | d + 1 => level_builds hs (lv_builds hs d)
/-- The tree of a row of tokens. -/
theorem tree_builds {ts : List Tk} (hs : Short ts) {ps : List PD} {offs : List Nat} (h : treeOf ts = .ok (ps, offs)) : ps.length = offs.length ∧ ps.length ≤ 1000 ∧ (∃ a, runF [] 0 ps = some [a]) ∧ ∀ q ∈ ps.zip offs, beginsT q.1 (ts.getD q.2 endT) := by
  unfold treeOf at h
  cases hx : (lv ts 32).expr ⟨0, 0, [], []⟩ with
  | error f => rw [hx] at h; cases h
  | ok p =>
    obtain ⟨i, S⟩ := p
    rw [hx] at h
    simp only at h
    split at h
    · split at h
      · cases h
      · rename_i hb
        injection h with h
        injection h with e1 e2
        subst e1 e2
        obtain ⟨_, new, no, k1, k2, k3, k4, k5⟩ := (lv_builds hs 32).expr _ _ _ hx
        simp only [List.nil_append] at k1 k2
        subst k1 k2
        exact ⟨k3, by omega, ⟨i, by simpa using k4 []⟩, fun q hq => (k5 q hq).2.2⟩
    · cases h

end Go.Proofs.YtfiljgkcipnghaaGreatDoor.X
set_option linter.unusedVariables false
set_option linter.unusedSimpArgs false
namespace Go.Proofs.YtfiljgkcipnghaaGreatDoor.X
/-- The first byte of a token. -/
theorem tok_first {l : Bs} {i : Nat} {t : Tk} (h : tokAt l i = .ok t) (hk : ¬ t.kind = 0) : ∃ c r, l.drop i = c :: r ∧ (t.kind = 1 → c = 34 ∧ t.text.length ≤ 127) ∧ (t.kind = 2 → c = 45 ∨ digB c = true) ∧ (t.kind = 3 ∨ t.kind = 4 → t.text.head? = some c) := by
  unfold tokAt at h
  split at h
  · cases h; exact absurd rfl hk
  · rename_i c r hd
    refine ⟨c, r, hd, ?_⟩
    split at h
    · rename_i hc
      unfold textAt at h
      split at h
      · cases h
      · cases h
      · cases h
      · rename_i b e he
        split at h
        · cases h
        · rename_i hb
          cases h
          exact ⟨fun _ => ⟨hc, by simp only; omega⟩, fun e => by simp at e, fun e => by simp at e⟩
    · have fin : ∀ q : Bool, (q = true → c = 45 ∨ digB c = true) → (if q = true then (match numOf (runL (c :: r)) with
            | some n => (.ok ⟨2, [], n, i, i + (runL (c :: r)).length⟩ : Res)
            | none => .error (114, i))
          else if wordB c then .ok ⟨3, runL (c :: r), 0, i, i + (runL (c :: r)).length⟩
          else match findMark (c :: r) marksL with
            | some m => .ok ⟨4, m, 0, i, i + m.length⟩
            | none => .error (111, i)) = .ok t → (t.kind = 1 → c = 34 ∧ t.text.length ≤ 127) ∧ (t.kind = 2 → c = 45 ∨ digB c = true) ∧ (t.kind = 3 ∨ t.kind = 4 → t.text.head? = some c) := by
        intro q hq h
        split at h
        · rename_i h1
          split at h
          · cases h; exact ⟨fun e => by simp at e, fun _ => hq h1, fun e => by simp at e⟩
          · cases h
        split at h
        · cases h; exact ⟨fun e => by simp at e, fun e => by simp at e, fun _ => rfl⟩
        split at h
        · rename_i m hm
          cases h
          refine ⟨fun e => by simp at e, fun e => by simp at e, fun _ => ?_⟩
          obtain ⟨h1, h2⟩ := findMark_some _ _ _ hm
          have hp := marks_pos m h1
          cases m with
          | nil => simp at hp
          | cons a m =>
            simp only [List.isPrefixOf, Bool.and_eq_true] at h2
            rw [eq_of_beq h2.1]; rfl
        · cases h
      refine fin _ (fun hq => ?_) h
      rw [Bool.or_eq_true, Bool.and_eq_true] at hq
      rcases hq with hq | hq
      · exact .inr hq
      · exact .inl (eq_of_beq hq.1)
theorem chain_getD {l : Bs} {ts : List Tk} (h : Chain l 0 ts) {i : Nat} (hk : ¬ (ts.getD i endT).kind = 0) : (ts.getD i endT).at_ < l.length ∧ tokAt l (ts.getD i endT).at_ = .ok (ts.getD i endT) := by
  obtain ⟨hj, hg⟩ := getD_in hk
  rw [hg] at hk ⊢
  obtain ⟨k1, k2⟩ := chain_in h i hj hk
  obtain ⟨us, hts, hu⟩ := chain_toks h
  have hm : ts[i] ∈ us := by
    have h1 : ts[i] ∈ us ++ [⟨0, [], 0, l.length, l.length⟩] := by rw [← hts]; exact List.getElem_mem hj
    rcases List.mem_append.1 h1 with h2 | h2
    · exact h2
    · simp only [List.mem_singleton] at h2
      rw [h2] at hk; exact absurd rfl hk
  exact ⟨by omega, (hu _ hm).2.1⟩
theorem chain_short {l : Bs} {ts : List Tk} (h : Chain l 0 ts) : Short ts := by
  intro i hi
  have hk : ¬ (ts.getD i endT).kind = 0 := by rw [hi]; decide
  obtain ⟨c, r, _, h1, _⟩ := tok_first (chain_getD h hk).2 hk
  exact (h1 hi).2
theorem place_le {l : Bs} {ts : List Tk} (h : Chain l 0 ts) (i : Nat) : placeT ts i ≤ l.length := by
  unfold placeT
  by_cases hk : (ts.getD i endT).kind = 0
  · rcases Nat.lt_or_ge i ts.length with hi | hi
    · obtain ⟨us, hts, hu⟩ := chain_toks h
      have hg : ts.getD i endT = ts[i] := by rw [List.getD_eq_getElem?_getD, List.getElem?_eq_getElem hi]; rfl
      rw [hg] at hk ⊢
      have h1 : ts[i] ∈ us ++ [⟨0, [], 0, l.length, l.length⟩] := by rw [← hts]; exact List.getElem_mem hi
      rcases List.mem_append.1 h1 with h2 | h2
      · exact (hu _ h2).1
      · simp only [List.mem_singleton] at h2
        rw [h2]; exact Nat.le_refl _
    · rw [List.getD_eq_getElem?_getD, List.getElem?_eq_none hi]; exact Nat.zero_le _
  · have := (chain_getD h hk).1; omega
/-- The byte with which a part may begin. -/
def byteOK (p : PD) (c : UInt8) : Prop :=
  (p.kind = 3 ∧ c = 33) ∨ (p.kind = 4 ∧ c = 38) ∨ (p.kind = 5 ∧ c = 124) ∨ (p.kind = 6 ∧ (c = 61 ∨ c = 33 ∨ c = 60 ∨ c = 62)) ∨ (p.kind = 7 ∧ (p.num = 0 ∧ c = 105 ∨ p.num = 1 ∧ c = 110)) ∨
  (p.kind = 13 ∧ c = 123) ∨ (p.kind = 11 ∧ c = 34) ∨ (p.kind = 12 ∧ (c = 45 ∨ digB c = true)) ∨ ((p.kind = 1 ∨ p.kind = 10) ∧ c = 116) ∨ (p.kind = 2 ∧ c = 102) ∨ (p.kind = 8 ∧ c = 110) ∨ (p.kind = 9 ∧ c = 97) ∨ (p.kind = 19 ∧ c = 105) ∨ (p.kind = 20 ∧ c = 99) ∨
  ((p.kind = 14 ∨ p.kind = 15 ∨ p.kind = 16 ∨ p.kind = 17 ∨ p.kind = 18) ∧ (p.num = 2 ∧ c = 110 ∨ p.num = 1 ∧ c = 112 ∨ p.num = 3 ∧ c = 105))
theorem side_cases {s : Bs} {n : Int} (h : sideP s = n) (h0 : ¬ n = 0) : (n = 2 ∧ s = [110, 111, 100, 101]) ∨ (n = 1 ∧ s = [112, 111, 100]) ∨ (n = 3 ∧ s = [105, 116]) := by
  unfold sideP at h
  split at h
  · rename_i e; exact .inl ⟨h.symm, e⟩
  split at h
  · rename_i e; exact .inr (.inl ⟨h.symm, e⟩)
  split at h
  · rename_i e; exact .inr (.inr ⟨h.symm, e⟩)
  · exact absurd h.symm h0
theorem begins_byte {l : Bs} {ts : List Tk} (h : Chain l 0 ts) {p : PD} {o : Nat} (hb : beginsT p (ts.getD o endT)) : ∃ hl : placeT ts o < l.length, byteOK p l[placeT ts o] := by
  have hk : ¬ (ts.getD o endT).kind = 0 := by
    intro e
    unfold beginsT at hb
    rw [e] at hb
    simp at hb
  obtain ⟨h1, h2⟩ := chain_getD h hk
  obtain ⟨c, r, hd, f1, f2, f3⟩ := tok_first h2 hk
  have hl : placeT ts o < l.length := h1
  have hc : l[placeT ts o] = c := by
    have e1 : (l.drop (placeT ts o))[0]? = some c := by unfold placeT; rw [hd]; rfl
    rw [List.getElem?_drop, Nat.add_zero, List.getElem?_eq_getElem hl] at e1
    injection e1
  refine ⟨hl, ?_⟩
  rw [hc]
  generalize ts.getD o endT = t at hb f1 f2 f3
  clear h h1 h2 hd hl hc hk
  obtain ⟨tk, tx, tn, ta, te⟩ := t
  simp only at f1 f2 f3
  unfold beginsT at hb
  simp only at hb
  unfold byteOK
  have f4 : ∀ (x : UInt8) (m : Bs), (tk = 3 ∨ tk = 4) → tx = x :: m → c = x := fun x m h1 h2 => by have := f3 h1; rw [h2] at this; injection this with this; exact this.symm
  rcases hb with ⟨a, b, d⟩ | ⟨a, b, d⟩ | ⟨a, b, d⟩ | ⟨a, b, d⟩ | ⟨a, b, d⟩ | ⟨a, b, d⟩ | ⟨a, b⟩ | ⟨a, b⟩ | ⟨a, b, d⟩ | ⟨a, b, d⟩ | ⟨a, b, d⟩ | ⟨a, b, d⟩ | ⟨a, b, d⟩ | ⟨a, b, d⟩ | ⟨a, b, d⟩ | ⟨a, b, d, e⟩
  · simp [a, f4 _ _ (.inr b) d]
  · simp [a, f4 _ _ (.inr b) d]
  · simp [a, f4 _ _ (.inr b) d]
  · rcases d with d | d | d | d | d | d <;> simp [a, f4 _ _ (.inr b) d]
  · rcases d with ⟨n, d⟩ | ⟨n, d⟩ <;> simp [a, n, f4 _ _ (.inl b) d]
  · simp [a, f4 _ _ (.inr b) d]
  · simp [a, (f1 b).1]
  · simp [a, f2 b]
  · simp [a, f4 _ _ (.inl b) d]
  · simp [a, f4 _ _ (.inl b) d]
  · simp [a, f4 _ _ (.inl b) d]
  · simp [a, f4 _ _ (.inl b) d]
  · simp [a, f4 _ _ (.inl b) d]
  · simp [a, f4 _ _ (.inl b) d]
  · simp [a, f4 _ _ (.inl b) d]
  · rcases side_cases d e with ⟨n, d⟩ | ⟨n, d⟩ | ⟨n, d⟩ <;> rcases a with a | a | a | a | a <;> simp [a, n, f4 _ _ (.inl b) d]
/-- Every source: a tree in postorder whose parts begin at their places, or a fault within it. -/
theorem either_cases (l : Bs) : (∃ ps offs, parseL l = .ok (ps, offs) ∧ ps.length = offs.length ∧ ps.length ≤ 1000 ∧ (∃ a, runF [] 0 ps = some [a]) ∧ ∀ q ∈ ps.zip offs, ∃ hl : q.2 < l.length, byteOK q.1 l[q.2]) ∨
    ∃ f : PF, parseL l = .error f ∧ f.2 ≤ l.length ∧ ((110 ≤ f.1 ∧ f.1 ≤ 115) ∨ (120 ≤ f.1 ∧ f.1 ≤ 124)) := by
  unfold parseL
  cases h : scanL l with
  | mk ts f =>
    cases f with
    | some f =>
      have h0 : ts = [] := by
        unfold scanL at h
        split at h
        · exact (congrArg Prod.fst h).symm
        · rename_i hs
          have := congrArg Prod.snd h
          simp only at this
          rw [this] at hs; exact absurd rfl hs
      subst h0
      obtain ⟨c, a⟩ := f
      have := scan_fault h
      exact .inr ⟨_, rfl, this.1, .inl ⟨this.2.1, this.2.2.1⟩⟩
    | none =>
      obtain ⟨hl, hch⟩ := prefix_chain h
      simp only
      cases ht : treeOf ts with
      | ok p =>
        obtain ⟨ps, offs⟩ := p
        obtain ⟨k1, k2, k3, k4⟩ := tree_builds (chain_short hch) ht
        refine .inl ⟨ps, offs.map (placeT ts), rfl, by rw [List.length_map]; exact k1, k2, k3, fun q hq => ?_⟩
        rw [List.zip_map_right, List.mem_map] at hq
        obtain ⟨q', hq', rfl⟩ := hq
        exact begins_byte hch (k4 q' hq')
      | error e =>
        refine .inr ⟨_, rfl, place_le hch _, ?_⟩
        rcases tree_err ht with (⟨h1, _⟩ | ⟨h1, _⟩) | ⟨h1, _⟩
        · simp only; omega
        · simp only; omega
        · simp only; omega

end Go.Proofs.YtfiljgkcipnghaaGreatDoor.X
