/-
  The document's machine as plain functions: what is awaited, one step at a time; that it answers as the descent does. No walk.
  The machine's run: what holds of it at each step; that it ends. No walk.
-/
import Derived.Test.YtfiljgkcipnghaaGreatDoorParS
set_option linter.unusedVariables false
set_option linter.unusedSimpArgs false
namespace Go.Proofs.YtfiljgkcipnghaaGreatDoor.X
/-- What is awaited. -/
inductive Wn where
  | expr | conj | unit | term | close | stop
  | ors (at_ : Option Nat) (base : Nat)
  | ands (at_ : Option Nat) (base : Nat)
  | rel (base : Nat)
  | neg (at_ base : Nat)
  | part (kind : Int) (text : Bs) (at_ base : Nat)
  | cmp (kind num : Int) (at_ base : Nat)
/-- What a step answers: what is awaited then, the parts that are free. -/
abbrev MR := PR (List Wn × List Nat)
def layR (at_ : Nat) (p : PD) (b : Nat) (fr : List Nat) (S : PS) : MR := .ok (([], fr.take b ++ [S.parts.length]), putS at_ { p with kids := fr.drop b } S)
def leafR (at_ : Nat) (p : PD) (fr : List Nat) (S : PS) : MR := .ok (([], fr ++ [S.parts.length]), putS at_ p S)
def listM (ts : List Tk) (between : Bs) (next : Wn) (again : Nat → Wn) (kind : Int) (a : Option Nat) (b : Nat) (fr : List Nat) (S : PS) : MR :=
  if isT ts S 4 between then .ok (([next, again (a.getD S.pos)], fr), on S)
  else match a with
    | none => .ok (([], fr), S)
    | some i => layR i ⟨kind, [], 0, []⟩ b fr S
def selectorM (ts : List Tk) (kind : Int) (fr : List Nat) (S : PS) : MR :=
  thenS (openP ts [40] (on S)) fun S1 => bindS (textP ts S1) fun key S2 => thenS (markP ts [44] S2) fun S3 => .ok (([.expr, .close, .part kind key S.pos fr.length], fr), S3)
def tolM (ts : List Tk) (fr : List Nat) (S : PS) : MR :=
  thenS (markP ts [40] (on S)) fun S1 => bindS (textP ts S1) fun s S2 => thenS (markP ts [41] S2) fun S3 => leafR S.pos ⟨10, s, 0, []⟩ fr S3
def unitM (ts : List Tk) (fr : List Nat) (S : PS) : MR :=
  if isT ts S 4 [33] then thenS (openP ts [33] S) fun S1 => .ok (([.unit, .neg S.pos fr.length], fr), S1)
  else if isT ts S 4 [40] then thenS (openP ts [40] S) fun S1 => .ok (([.expr, .close], fr), S1)
  else if (pk ts S).kind = 3 then
    if (pk ts S).text = [116, 114, 117, 101] then leafR S.pos ⟨1, [], 0, []⟩ fr (on S)
    else if (pk ts S).text = [102, 97, 108, 115, 101] then leafR S.pos ⟨2, [], 0, []⟩ fr (on S)
    else if (pk ts S).text = [110, 101, 97, 114] then selectorM ts 8 fr S
    else if (pk ts S).text = [97, 112, 97, 114, 116] then selectorM ts 9 fr S
    else if (pk ts S).text = [116, 111, 108, 101, 114, 97, 116, 101, 100] then tolM ts fr S
    else .ok (([.term, .rel fr.length], fr), S)
  else .ok (([.term, .rel fr.length], fr), S)
def oneM (x : PR Nat) (fr : List Nat) : MR := bindS x fun i S' => .ok (([], fr ++ [i]), S')
def termM (ts : List Tk) (fr : List Nat) (S : PS) : MR :=
  if (pk ts S).kind = 1 then leafR S.pos ⟨11, (pk ts S).text, 0, []⟩ fr (on S)
  else if (pk ts S).kind = 2 then leafR S.pos ⟨12, [], (pk ts S).num, []⟩ fr (on S)
  else if isT ts S 4 [123] then oneM (setP ts S) fr
  else if isT ts S 3 [105, 110, 116] then thenS (openP ts [40] (on S)) fun S1 => .ok (([.term, .close, .part 19 [] S.pos fr.length], fr), S1)
  else if isT ts S 3 [99, 111, 117, 110, 116] then selectorM ts 20 fr S
  else oneM (ownedP ts S) fr
/-- One step. -/
def stepM (ts : List Tk) : Wn → List Nat → PS → MR
  | .expr, fr, S => .ok (([.conj, .ors none fr.length], fr), S)
  | .conj, fr, S => .ok (([.unit, .ands none fr.length], fr), S)
  | .ors a b, fr, S => listM ts [124, 124] .conj (fun i => .ors (some i) b) 5 a b fr S
  | .ands a b, fr, S => listM ts [38, 38] .unit (fun i => .ands (some i) b) 4 a b fr S
  | .unit, fr, S => unitM ts fr S
  | .term, fr, S => termM ts fr S
  | .rel b, fr, S => bindS (relationP ts S) fun kn S2 => .ok (([.term, .cmp kn.1 kn.2 S.pos b], fr), S2)
  | .close, fr, S => thenS (shutP ts S) fun S1 => .ok (([], fr), S1)
  | .neg i b, fr, S => layR i ⟨3, [], 0, []⟩ b fr (closeN S)
  | .part k s i b, fr, S => layR i ⟨k, s, 0, []⟩ b fr S
  | .cmp k n i b, fr, S => layR i ⟨k, [], n, []⟩ b fr S
  | .stop, fr, S => if (pk ts S).kind = 0 then .ok (([], fr), S) else .error (wrongP ts S)

/-- The descent's functions where so many stand open. -/
def lo (ts : List Tk) (n : Nat) : Lv := if n < 32 then lv ts (31 - n) else noLv
theorem lo_lv (ts : List Tk) {n : Nat} (h : n < 32) : lo ts n = ⟨exprP ts (lo ts (n + 1)), unitP ts (lo ts (n + 1)), termP ts (lo ts (n + 1))⟩ := by
  unfold lo
  rw [if_pos h]
  by_cases h2 : n + 1 < 32
  · rw [if_pos h2, show 31 - n = (31 - (n + 1)) + 1 by omega]; rfl
  · rw [if_neg h2, show 31 - n = 0 by omega]; rfl
theorem lo_expr (ts : List Tk) {n : Nat} (h : n < 32) : (lo ts n).expr = exprP ts (lo ts (n + 1)) := by rw [lo_lv ts h]
theorem lo_unit (ts : List Tk) {n : Nat} (h : n < 32) : (lo ts n).unit = unitP ts (lo ts (n + 1)) := by rw [lo_lv ts h]
theorem lo_term (ts : List Tk) {n : Nat} (h : n < 32) : (lo ts n).term = termP ts (lo ts (n + 1)) := by rw [lo_lv ts h]
theorem lo_fair (ts : List Tk) (n : Nat) : LvFair (lo ts n) := by
  unfold lo
  split
  · exact lv_fair ts _
  · exact ⟨(fun S a S' h => by cases h), (fun S a S' h => by cases h), (fun S a S' h => by cases h)⟩
/-- What is left of a list. -/
def tailP (ts : List Tk) (between : Bs) (kind : Int) (one : PS → PR Nat) (a : Option Nat) (kids : List Nat) (S : PS) : PR Nat :=
  listEnd kind (a.getD S.pos) (kids.getD 0 0) (listLoop ts between one (5001 - kids.length) kids S)
def endR (x : PR Nat) (fr : List Nat) : PR (List Nat) := bindS x fun i S' => .ok (fr ++ [i], S')
def layP (at_ : Nat) (p : PD) (b : Nat) (fr : List Nat) (S : PS) : PR (List Nat) := .ok (fr.take b ++ [S.parts.length], putS at_ { p with kids := fr.drop b } S)
/-- What a thing that is awaited comes to in the end. -/
def semW (ts : List Tk) : Wn → List Nat → PS → PR (List Nat)
  | .expr, fr, S => endR (exprP ts (lo ts S.nest) S) fr
  | .conj, fr, S => endR (conjP ts (lo ts S.nest) S) fr
  | .unit, fr, S => endR (unitP ts (lo ts S.nest) S) fr
  | .term, fr, S => endR (termP ts (lo ts S.nest) S) fr
  | .ors a b, fr, S => endR (tailP ts [124, 124] 5 (conjP ts (lo ts S.nest)) a (fr.drop b) S) (fr.take b)
  | .ands a b, fr, S => endR (tailP ts [38, 38] 4 (unitP ts (lo ts S.nest)) a (fr.drop b) S) (fr.take b)
  | .rel b, fr, S => bindS (relationP ts S) fun kn S2 => bindS (termP ts (lo ts S2.nest) S2) fun right S3 => layP S.pos ⟨kn.1, [], kn.2, []⟩ b (fr ++ [right]) S3
  | .close, fr, S => thenS (shutP ts S) fun S1 => .ok (fr, S1)
  | .neg i b, fr, S => layP i ⟨3, [], 0, []⟩ b fr (closeN S)
  | .part k s i b, fr, S => layP i ⟨k, s, 0, []⟩ b fr S
  | .cmp k n i b, fr, S => layP i ⟨k, [], n, []⟩ b fr S
  | .stop, fr, S => if (pk ts S).kind = 0 then .ok (fr, S) else .error (wrongP ts S)
def sem (ts : List Tk) : List Wn → List Nat → PS → PR (List Nat)
  | [], fr, S => .ok (fr, S)
  | w :: ws, fr, S => bindS (semW ts w fr S) (sem ts ws)
theorem bindS_assoc {α β γ : Type} (x : PR α) (f : α → PS → PR β) (g : β → PS → PR γ) : bindS (bindS x f) g = bindS x fun a S => bindS (f a S) g := by
  cases x with
  | error e => rfl
  | ok p => rfl
theorem bindS_thenS {α β : Type} (x : Except PF PS) (f : PS → PR α) (g : α → PS → PR β) : bindS (thenS x f) g = thenS x fun S => bindS (f S) g := by
  cases x with
  | error e => rfl
  | ok p => rfl
theorem bindS_ok {α β : Type} (a : α) (S : PS) (f : α → PS → PR β) : bindS (.ok (a, S)) f = f a S := rfl
theorem sem_append (ts : List Tk) : ∀ (ws vs : List Wn) (fr : List Nat) (S : PS), sem ts (ws ++ vs) fr S = bindS (sem ts ws fr S) (sem ts vs)
  | [], vs, fr, S => rfl
  | w :: ws, vs, fr, S => by
    simp only [List.cons_append, sem]
    rw [bindS_assoc]
    congr 1
    funext fr' S'
    exact sem_append ts ws vs fr' S'
/-- What holds of the things that are awaited, so many parts free. -/
def Wf : List Wn → Nat → Prop
  | [], _ => True
  | .expr :: ws, n => Wf ws (n + 1)
  | .conj :: ws, n => Wf ws (n + 1)
  | .unit :: ws, n => Wf ws (n + 1)
  | .term :: ws, n => Wf ws (n + 1)
  | .close :: ws, n => Wf ws n
  | .stop :: ws, n => Wf ws n
  | .ors a b :: ws, n => (match a with | none => n = b + 1 | some _ => b + 2 ≤ n) ∧ Wf ws (b + 1)
  | .ands a b :: ws, n => (match a with | none => n = b + 1 | some _ => b + 2 ≤ n) ∧ Wf ws (b + 1)
  | .rel b :: ws, n => n = b + 1 ∧ Wf ws (b + 1)
  | .neg _ b :: ws, n => n = b + 1 ∧ Wf ws (b + 1)
  | .part _ _ _ b :: ws, n => n = b + 1 ∧ Wf ws (b + 1)
  | .cmp _ _ _ b :: ws, n => n = b + 2 ∧ Wf ws (b + 1)
theorem list_step (ts : List Tk) (between : Bs) (kind : Int) (one : PS → PR Nat) (a : Option Nat) (b : Nat) (fr : List Nat) (S : PS) (hb : match a with | none => fr.length = b + 1 | some _ => b + 2 ≤ fr.length) (h5 : fr.length ≤ 5000) (hone : FairF one) :
    endR (tailP ts between kind one a (fr.drop b) S) (fr.take b) =
      if isT ts S 4 between then bindS (one (on S)) fun i S' => endR (tailP ts between kind one (some (a.getD S.pos)) ((fr ++ [i]).drop b) S') ((fr ++ [i]).take b)
      else match a with
        | none => .ok (fr, S)
        | some i => layP i ⟨kind, [], 0, []⟩ b fr S := by
  have hbl : b < fr.length := by cases a <;> simp only at hb <;> omega
  have hkl : (fr.drop b).length = fr.length - b := List.length_drop
  have e5 : 5001 - (fr.drop b).length = (5000 - (fr.drop b).length) + 1 := by omega
  unfold tailP
  rw [e5]
  simp only [listLoop]
  by_cases hm : isT ts S 4 between = true
  · rw [if_pos hm, if_pos hm]
    cases ho : one (on S) with
    | error f => rfl
    | ok q =>
      obtain ⟨i, S'⟩ := q
      simp only [bindS_ok]
      have hd : (fr ++ [i]).drop b = fr.drop b ++ [i] := List.drop_append_of_le_length (by omega)
      have ht : (fr ++ [i]).take b = fr.take b := List.take_append_of_le_length (by omega)
      rw [hd, ht]
      have e6 : 5001 - (fr.drop b ++ [i]).length = 5000 - (fr.drop b).length := by simp
      have e7 : (fr.drop b ++ [i]).getD 0 0 = (fr.drop b).getD 0 0 := by
        obtain ⟨x, xs, hx⟩ := List.exists_cons_of_length_pos (show 0 < (fr.drop b).length by omega)
        rw [hx]; rfl
      rw [e6, e7]
      rfl
  · rw [if_neg hm, if_neg hm]
    simp only [listEnd]
    cases a with
    | none =>
      simp only at hb
      have h1 : (fr.drop b).length = 1 := by omega
      rw [if_pos h1]
      obtain ⟨x, hx⟩ := List.length_eq_one_iff.1 h1
      show Except.ok (fr.take b ++ [(fr.drop b).getD 0 0], S) = Except.ok (fr, S)
      rw [hx]
      show Except.ok (fr.take b ++ [x], S) = Except.ok (fr, S)
      rw [← hx, List.take_append_drop]
    | some i =>
      simp only at hb
      rw [if_neg (by omega)]
      rfl
theorem bindS_congr {α β : Type} {x : PR α} {f g : α → PS → PR β} (h : ∀ a S, x = .ok (a, S) → f a S = g a S) : bindS x f = bindS x g := by
  cases x with
  | error e => rfl
  | ok p => exact h p.1 p.2 rfl
theorem thenS_congr {β : Type} {x : Except PF PS} {f g : PS → PR β} (h : ∀ S, x = .ok S → f S = g S) : thenS x f = thenS x g := by
  cases x with
  | error e => rfl
  | ok p => exact h p rfl
theorem endR_bindS {α : Type} (x : PR α) (f : α → PS → PR Nat) (fr : List Nat) : endR (bindS x f) fr = bindS x fun a S => endR (f a S) fr := by
  cases x with
  | error e => rfl
  | ok p => rfl
theorem endR_thenS (x : Except PF PS) (f : PS → PR Nat) (fr : List Nat) : endR (thenS x f) fr = thenS x fun S => endR (f S) fr := by
  cases x with
  | error e => rfl
  | ok p => rfl
theorem bindS_endR {β : Type} (x : PR Nat) (fr : List Nat) (f : List Nat → PS → PR β) : bindS (endR x fr) f = bindS x fun i S => f (fr ++ [i]) S := by
  cases x with
  | error e => rfl
  | ok p => rfl
theorem sem_last (ts : List Tk) (w : Wn) : sem ts [w] = semW ts w := by
  funext fr S
  show bindS (semW ts w fr S) (sem ts []) = semW ts w fr S
  cases semW ts w fr S with
  | error e => rfl
  | ok p => rfl
theorem sem_two (ts : List Tk) (w v : Wn) (fr : List Nat) (S : PS) : sem ts [w, v] fr S = bindS (semW ts w fr S) (semW ts v) := by
  rw [← sem_last ts v]; rfl
theorem sem_three (ts : List Tk) (w v u : Wn) (fr : List Nat) (S : PS) : sem ts [w, v, u] fr S = bindS (semW ts w fr S) fun fr' S' => bindS (semW ts v fr' S') (semW ts u) := by
  show bindS (semW ts w fr S) (sem ts [v, u]) = _
  congr 1
  funext fr' S'
  exact sem_two ts v u fr' S'
theorem open_nest {ts : List Tk} {m : Bs} {S S1 : PS} (h : openP ts m S = .ok S1) (h32 : S.nest ≤ 32) : S.nest < 32 ∧ S1.nest = S.nest + 1 := by
  unfold openP at h
  split at h
  · split at h
    · cases h
    · injection h with h
      subst h
      exact ⟨by omega, rfl⟩
  · cases h
theorem text_nest {ts : List Tk} {S S1 : PS} {s : Bs} (h : textP ts S = .ok (s, S1)) : S1.nest = S.nest := by
  unfold textP at h
  split at h
  · injection h with h; injection h with h1 h2; subst h2; rfl
  · cases h
theorem mark_nest {ts : List Tk} {m : Bs} {S S1 : PS} (h : markP ts m S = .ok S1) : S1.nest = S.nest := by rw [mark_fair h]; rfl
theorem list_open (ts : List Tk) (between : Bs) (kind : Int) (one : PS → PR Nat) (fr : List Nat) (S : PS) :
    endR (listP ts between kind one S) fr = bindS (one S) fun i S' => endR (tailP ts between kind one none ((fr ++ [i]).drop fr.length) S') ((fr ++ [i]).take fr.length) := by
  unfold listP
  cases one S with
  | error e => rfl
  | ok p =>
    obtain ⟨i, S'⟩ := p
    simp only [bindS_ok, List.drop_left, List.take_left]
    rfl
theorem one_sem (ts : List Tk) (x : PR Nat) (fr : List Nat) : endR x fr = bindS (oneM x fr) fun q S' => sem ts q.1 q.2 S' := by
  cases x with
  | error e => rfl
  | ok p => rfl
theorem layP_last (at_ : Nat) (k : Int) (s : Bs) (n : Int) (fr : List Nat) (i : Nat) (S : PS) : layP at_ ⟨k, s, n, []⟩ fr.length (fr ++ [i]) S = endR (putP at_ ⟨k, s, n, [i]⟩ S) fr := by
  unfold layP
  rw [List.take_left, List.drop_left]
  rfl
theorem selector_sem (ts : List Tk) (kind : Int) (fr : List Nat) (S : PS) (h32 : S.nest ≤ 32) : endR (scopedP ts (lo ts S.nest) kind S) fr = bindS (selectorM ts kind fr S) fun q S' => sem ts q.1 q.2 S' := by
  unfold scopedP selectorM
  rw [endR_thenS, bindS_thenS]
  refine thenS_congr (fun S1 h1 => ?_)
  obtain ⟨hn, hn1⟩ := open_nest h1 h32
  rw [endR_bindS, bindS_assoc]
  refine bindS_congr (fun key S2 h2 => ?_)
  rw [endR_thenS, bindS_thenS]
  refine thenS_congr (fun S3 h3 => ?_)
  have e3 : S3.nest = S.nest + 1 := by rw [mark_nest h3, text_nest h2, hn1]; rfl
  have hn' : S.nest < 32 := hn
  rw [bindS_ok, endR_bindS, sem_three, lo_expr ts hn']
  simp only [semW]
  rw [bindS_endR, e3]
  refine bindS_congr (fun kid S4 h4 => ?_)
  rw [endR_thenS, bindS_thenS]
  refine thenS_congr (fun S5 h5 => ?_)
  rw [bindS_ok]
  exact (layP_last _ _ _ _ _ _ _).symm
theorem tol_sem (ts : List Tk) (fr : List Nat) (S : PS) : endR (thenS (markP ts [40] (on S)) fun S1 => bindS (textP ts S1) fun s S2 => thenS (markP ts [41] S2) fun S3 => putP S.pos ⟨10, s, 0, []⟩ S3) fr = bindS (tolM ts fr S) fun q S' => sem ts q.1 q.2 S' := by
  unfold tolM
  rw [endR_thenS, bindS_thenS]
  refine thenS_congr (fun S1 h1 => ?_)
  rw [endR_bindS, bindS_assoc]
  refine bindS_congr (fun key S2 h2 => ?_)
  rw [endR_thenS, bindS_thenS]
  refine thenS_congr (fun S3 h3 => ?_)
  rfl
theorem cmp_sem (ts : List Tk) (fr : List Nat) (S : PS) : endR (cmpP ts (lo ts S.nest) S) fr = sem ts [.term, .rel fr.length] fr S := by
  rw [sem_two]
  unfold cmpP
  simp only [semW]
  rw [endR_bindS, bindS_endR]
  refine bindS_congr (fun left S1 h1 => ?_)
  rw [endR_bindS]
  have e1 : S1.nest = S.nest := (term_fair (lo_fair ts S.nest) _ _ _ h1).nest
  refine bindS_congr (fun kn S2 h2 => ?_)
  have e2 : S2.nest = S1.nest := by rw [relation_fair h2]; rfl
  rw [endR_bindS, e2, e1]
  refine bindS_congr (fun right S3 h3 => ?_)
  unfold layP
  have t1 : (fr ++ [left] ++ [right]).take fr.length = fr := by rw [List.append_assoc]; exact List.take_left
  have t2 : (fr ++ [left] ++ [right]).drop fr.length = [left, right] := by rw [List.append_assoc]; exact List.drop_left
  rw [t1, t2]
  rfl
/-- A step keeps what it comes to in the end. -/
theorem step_sem (ts : List Tk) (w : Wn) (ws : List Wn) (fr : List Nat) (S : PS) (hw : Wf (w :: ws) fr.length) (h5 : fr.length ≤ 5000) (h32 : S.nest ≤ 32) :
    semW ts w fr S = bindS (stepM ts w fr S) fun q S' => sem ts q.1 q.2 S' := by
  cases w with
  | expr =>
    simp only [semW, stepM, bindS_ok]
    rw [sem_two]
    unfold exprP
    rw [list_open]
    simp only [semW]
    rw [bindS_endR]
    refine bindS_congr (fun i S' h => ?_)
    have e : S'.nest = S.nest := (conj_fair (lo_fair ts S.nest) _ _ _ h).nest
    simp only [semW]
    rw [e]
  | conj =>
    simp only [semW, stepM, bindS_ok]
    rw [sem_two]
    unfold conjP
    rw [list_open]
    simp only [semW]
    rw [bindS_endR]
    refine bindS_congr (fun i S' h => ?_)
    have e : S'.nest = S.nest := (unit_fair (lo_fair ts S.nest) _ _ _ h).nest
    simp only [semW]
    rw [e]
  | ors a b =>
    have hb := hw.1
    simp only [semW, stepM]
    rw [list_step ts _ _ _ a b fr S hb h5 (conj_fair (lo_fair ts S.nest))]
    unfold listM
    by_cases hm : isT ts S 4 [124, 124] = true
    · rw [if_pos hm, if_pos hm, bindS_ok, sem_two]
      simp only [semW]
      rw [bindS_endR]
      refine bindS_congr (fun i S' h => ?_)
      have e : S'.nest = (on S).nest := (conj_fair (lo_fair ts (on S).nest) _ _ _ h).nest
      simp only [semW]
      rw [e]
      rfl
    · rw [if_neg hm, if_neg hm]
      cases a <;> rfl
  | ands a b =>
    have hb := hw.1
    simp only [semW, stepM]
    rw [list_step ts _ _ _ a b fr S hb h5 (unit_fair (lo_fair ts S.nest))]
    unfold listM
    by_cases hm : isT ts S 4 [38, 38] = true
    · rw [if_pos hm, if_pos hm, bindS_ok, sem_two]
      simp only [semW]
      rw [bindS_endR]
      refine bindS_congr (fun i S' h => ?_)
      have e : S'.nest = (on S).nest := (unit_fair (lo_fair ts (on S).nest) _ _ _ h).nest
      simp only [semW]
      rw [e]
      rfl
    · rw [if_neg hm, if_neg hm]
      cases a <;> rfl
  | unit =>
    simp only [semW, stepM]
    unfold unitP unitM
    by_cases h1 : isT ts S 4 [33] = true
    · rw [if_pos h1, if_pos h1, endR_thenS, bindS_thenS]
      refine thenS_congr (fun S1 ho => ?_)
      obtain ⟨hn, hn1⟩ := open_nest ho h32
      rw [bindS_ok, endR_bindS, sem_two, lo_unit ts hn]
      simp only [semW]
      rw [bindS_endR, hn1]
      refine bindS_congr (fun kid S2 h2 => ?_)
      exact (layP_last _ _ _ _ _ _ _).symm
    · rw [if_neg h1, if_neg h1]
      by_cases h2 : isT ts S 4 [40] = true
      · rw [if_pos h2, if_pos h2, endR_thenS, bindS_thenS]
        refine thenS_congr (fun S1 ho => ?_)
        obtain ⟨hn, hn1⟩ := open_nest ho h32
        rw [bindS_ok, endR_bindS, sem_two, lo_expr ts hn]
        simp only [semW]
        rw [bindS_endR, hn1]
        refine bindS_congr (fun kid S2 h2 => ?_)
        rw [endR_thenS]
        rfl
      · rw [if_neg h2, if_neg h2]
        unfold atomP
        simp only
        by_cases h3 : (pk ts S).kind = 3
        · rw [if_pos h3, if_pos h3]
          by_cases a1 : (pk ts S).text = [116, 114, 117, 101]
          · rw [if_pos a1, if_pos a1]; rfl
          rw [if_neg a1, if_neg a1]
          by_cases a2 : (pk ts S).text = [102, 97, 108, 115, 101]
          · rw [if_pos a2, if_pos a2]; rfl
          rw [if_neg a2, if_neg a2]
          by_cases a3 : (pk ts S).text = [110, 101, 97, 114]
          · rw [if_pos a3, if_pos a3]; exact selector_sem ts 8 fr S h32
          rw [if_neg a3, if_neg a3]
          by_cases a4 : (pk ts S).text = [97, 112, 97, 114, 116]
          · rw [if_pos a4, if_pos a4]; exact selector_sem ts 9 fr S h32
          rw [if_neg a4, if_neg a4]
          by_cases a5 : (pk ts S).text = [116, 111, 108, 101, 114, 97, 116, 101, 100]
          · rw [if_pos a5, if_pos a5]; exact tol_sem ts fr S
          rw [if_neg a5, if_neg a5]
          exact cmp_sem ts fr S
        · rw [if_neg h3, if_neg h3]
          exact cmp_sem ts fr S
  | term =>
    simp only [semW, stepM]
    unfold termP termM
    simp only
    by_cases a1 : (pk ts S).kind = 1
    · rw [if_pos a1, if_pos a1]; rfl
    rw [if_neg a1, if_neg a1]
    by_cases a2 : (pk ts S).kind = 2
    · rw [if_pos a2, if_pos a2]; rfl
    rw [if_neg a2, if_neg a2]
    by_cases a3 : isT ts S 4 [123] = true
    · rw [if_pos a3, if_pos a3]; exact one_sem ts _ fr
    rw [if_neg a3, if_neg a3]
    by_cases a4 : isT ts S 3 [105, 110, 116] = true
    · rw [if_pos a4, if_pos a4, endR_thenS, bindS_thenS]
      refine thenS_congr (fun S1 ho => ?_)
      obtain ⟨hn, hn1⟩ := open_nest ho h32
      have hn' : S.nest < 32 := hn
      have hn2 : S1.nest = S.nest + 1 := hn1
      rw [bindS_ok, endR_bindS, sem_three, lo_term ts hn']
      simp only [semW]
      rw [bindS_endR, hn2]
      refine bindS_congr (fun kid S2 h2 => ?_)
      rw [endR_thenS, bindS_thenS]
      refine thenS_congr (fun S3 h3 => ?_)
      rw [bindS_ok]
      exact (layP_last _ _ _ _ _ _ _).symm
    rw [if_neg a4, if_neg a4]
    by_cases a5 : isT ts S 3 [99, 111, 117, 110, 116] = true
    · rw [if_pos a5, if_pos a5]; exact selector_sem ts 20 fr S h32
    rw [if_neg a5, if_neg a5]
    exact one_sem ts _ fr
  | rel b =>
    have hb : fr.length = b + 1 := hw.1
    simp only [semW, stepM]
    rw [bindS_assoc]
    refine bindS_congr (fun kn S2 h2 => ?_)
    rw [bindS_ok, sem_two]
    simp only [semW]
    rw [bindS_endR]
    rfl
  | close =>
    simp only [semW, stepM]
    rw [bindS_thenS]
    rfl
  | neg i b => rfl
  | part k s i b => rfl
  | cmp k n i b => rfl
  | stop =>
    simp only [semW, stepM]
    by_cases h : (pk ts S).kind = 0
    · rw [if_pos h, if_pos h]; rfl
    · rw [if_neg h, if_neg h]; rfl
/-- The whole run. -/
theorem run_start (ts : List Tk) : sem ts [.expr, .stop] [] ⟨0, 0, [], []⟩ = (match (lv ts 32).expr ⟨0, 0, [], []⟩ with
    | .error f => .error f
    | .ok (i, S) => if (pk ts S).kind = 0 then .ok ([i], S) else .error (wrongP ts S)) := by
  rw [sem_two]
  simp only [semW]
  rw [bindS_endR]
  show bindS (exprP ts (lo ts 0) _) _ = _
  rw [show (lv ts 32).expr = exprP ts (lo ts 0) from rfl]
  cases exprP ts (lo ts 0) ⟨0, 0, [], []⟩ with
  | error f => rfl
  | ok p => rfl

end Go.Proofs.YtfiljgkcipnghaaGreatDoor.X
set_option linter.unusedVariables false
set_option linter.unusedSimpArgs false
namespace Go.Proofs.YtfiljgkcipnghaaGreatDoor.X
def sumW (f : Wn → Nat) : List Wn → Nat
  | [] => 0
  | w :: ws => f w + sumW f ws
theorem sumW_append (f : Wn → Nat) : ∀ ws vs : List Wn, sumW f (ws ++ vs) = sumW f ws + sumW f vs
  | [], vs => by simp [sumW]
  | w :: ws, vs => by simp [sumW, sumW_append f ws vs]; omega
/-- So much work is left in it. -/
def wt : Wn → Nat
  | .expr => 7
  | .conj => 5
  | .unit => 3
  | _ => 1
/-- It ends a nest. -/
def nst : Wn → Nat
  | .close => 1
  | .neg _ _ => 1
  | _ => 0
/-- It lays a part and takes no token. -/
def pnd : Wn → Nat
  | .neg _ _ => 1
  | .part _ _ _ _ => 1
  | .cmp _ _ _ _ => 1
  | .ors (some _) _ => 1
  | .ands (some _) _ => 1
  | _ => 0
/-- What holds of the machine. -/
structure RunI (ws : List Wn) (fr : List Nat) (S : PS) : Prop where
  wf : Wf ws fr.length
  parts : S.parts.length + sumW pnd ws ≤ S.pos
  free : fr.length ≤ S.parts.length
  offs : S.offs.length = S.parts.length
  nest : S.nest = sumW nst ws
  n32 : S.nest ≤ 32
/-- A step goes on: a token is taken, or less is left. -/
def OnI (ws ws' : List Wn) (S S' : PS) : Prop := (S.pos < S'.pos ∧ sumW wt ws' ≤ sumW wt ws + 8) ∨ (S'.pos = S.pos ∧ sumW wt ws' < sumW wt ws)
theorem lay_run {ws : List Wn} {fr : List Nat} {S S1 S' : PS} {at_ b : Nat} {p : PD} {ws' : List Wn} {fr' : List Nat} (hw : Wf ws (b + 1)) (hb : b < fr.length) (hp : S1.parts.length + (sumW pnd ws + 1) ≤ S1.pos) (hf : fr.length ≤ S1.parts.length) (ho : S1.offs.length = S1.parts.length)
    (hn : S1.nest = sumW nst ws) (h32 : S1.nest ≤ 32) (e : layR at_ p b fr S1 = .ok ((ws', fr'), S')) : RunI (ws' ++ ws) fr' S' ∧ ws' = [] ∧ S'.pos = S1.pos := by
  unfold layR at e
  injection e with e; injection e with e1 e2; injection e1 with e0 e1
  subst e0 e1 e2
  refine ⟨⟨?_, ?_, ?_, ?_, hn, h32⟩, rfl, rfl⟩
  · have : (fr.take b ++ [S1.parts.length]).length = b + 1 := by simp; omega
    rw [List.nil_append, this]; exact hw
  · simp [putS]; omega
  · simp [putS]; omega
  · simp [putS, ho]
theorem leaf_run {ws : List Wn} {fr : List Nat} {S1 S' : PS} {at_ : Nat} {p : PD} {ws' : List Wn} {fr' : List Nat} (hw : Wf ws (fr.length + 1)) (hp : S1.parts.length + (sumW pnd ws + 1) ≤ S1.pos) (hf : fr.length ≤ S1.parts.length) (ho : S1.offs.length = S1.parts.length)
    (hn : S1.nest = sumW nst ws) (h32 : S1.nest ≤ 32) (e : leafR at_ p fr S1 = .ok ((ws', fr'), S')) : RunI (ws' ++ ws) fr' S' ∧ ws' = [] ∧ S'.pos = S1.pos := by
  unfold leafR at e
  injection e with e; injection e with e1 e2; injection e1 with e0 e1
  subst e0 e1 e2
  refine ⟨⟨?_, ?_, ?_, ?_, hn, h32⟩, rfl, rfl⟩
  · simpa using hw
  · simp [putS]; omega
  · simp [putS]; omega
  · simp [putS, ho]
theorem one_run {ws : List Wn} {fr : List Nat} {S S' : PS} {x : PR Nat} {ws' : List Wn} {fr' : List Nat} (hx : ∀ i S', x = .ok (i, S') → Fair S S' ∧ S.pos < S'.pos ∧ S.parts.length < S'.parts.length) (hw : Wf ws (fr.length + 1)) (hp : S.parts.length + sumW pnd ws ≤ S.pos) (hf : fr.length ≤ S.parts.length) (ho : S.offs.length = S.parts.length)
    (hn : S.nest = sumW nst ws) (h32 : S.nest ≤ 32) (e : oneM x fr = .ok ((ws', fr'), S')) : RunI (ws' ++ ws) fr' S' ∧ ws' = [] ∧ S.pos < S'.pos := by
  unfold oneM at e
  obtain ⟨i, S1, h1, e⟩ := bind_ok e
  injection e with e; injection e with e1 e2; injection e1 with e0 e1
  subst e0 e1 e2
  obtain ⟨hF, hpos, hmore⟩ := hx i S1 h1
  have h2 := hF.grow
  have h3 := hF.offs
  have h4 := hF.nest
  refine ⟨⟨by simpa using hw, ?_, ?_, by omega, by rw [h4]; exact hn, by omega⟩, rfl, hpos⟩
  · simp; omega
  · simp; omega
theorem sel_run {ts : List Tk} {kind : Int} {ws : List Wn} {fr : List Nat} {S S' : PS} {ws' : List Wn} {fr' : List Nat} (hw : Wf ws (fr.length + 1)) (hp : S.parts.length + sumW pnd ws ≤ S.pos) (hf : fr.length ≤ S.parts.length) (ho : S.offs.length = S.parts.length)
    (hn : S.nest = sumW nst ws) (h32 : S.nest ≤ 32) (e : selectorM ts kind fr S = .ok ((ws', fr'), S')) : RunI (ws' ++ ws) fr' S' ∧ S.pos < S'.pos ∧ sumW wt ws' ≤ 9 := by
  unfold selectorM at e
  obtain ⟨S1, h1, e⟩ := then_ok e
  obtain ⟨key, S2, h2, e⟩ := bind_ok e
  obtain ⟨S3, h3, e⟩ := then_ok e
  injection e with e; injection e with e1 e2; injection e1 with e0 e1
  obtain ⟨rfl, hne⟩ := open_fair h1
  obtain rfl := text_fair h2
  obtain rfl := mark_fair h3
  subst e0 e1 e2
  have hne' : S.nest ≠ 32 := hne
  refine ⟨⟨⟨rfl, hw⟩, ?_, hf, ho, ?_, ?_⟩, ?_, ?_⟩
  · simp [on, sumW, pnd]; omega
  · simp [on, sumW, nst]; omega
  · simp [on]; omega
  · simp [on]; omega
  · simp [sumW, wt]
theorem set_more {ts : List Tk} {S S' : PS} {i : Nat} (h : setP ts S = .ok (i, S')) : S.parts.length < S'.parts.length := by
  have hF := set_fair _ _ _ h
  unfold setP at h
  obtain ⟨S1, h1, h⟩ := then_ok h
  obtain ⟨ks, S2, h2, h⟩ := bind_ok h
  obtain ⟨rfl, rfl⟩ := put_ok h
  rw [mark_fair h1] at h2
  have := (setLoop_fair _ _ _ _ _ h2).more
  simp [on] at this
  simp [putS, on]; omega
theorem owned_more {ts : List Tk} {S S' : PS} {i : Nat} (h : ownedP ts S = .ok (i, S')) : S.parts.length < S'.parts.length := by
  unfold ownedP ownK ownN at h
  split at h
  · cases h
  split at h
  · obtain ⟨s, S2, h2, h⟩ := bind_ok h
    obtain ⟨S3, h3, h⟩ := then_ok h
    obtain ⟨rfl, rfl⟩ := put_ok h
    obtain rfl := text_fair h2
    obtain rfl := mark_fair h3
    simp [putS, on]
  split at h
  · split at h
    · obtain ⟨rfl, rfl⟩ := put_ok h; simp [putS, on]
    split at h
    · obtain ⟨rfl, rfl⟩ := put_ok h; simp [putS, on]
    split at h
    · obtain ⟨rfl, rfl⟩ := put_ok h; simp [putS, on]
    split at h
    · obtain ⟨S3, h3, h⟩ := then_ok h
      obtain ⟨s, S4, h4, h⟩ := bind_ok h
      obtain ⟨S5, h5, h⟩ := then_ok h
      obtain ⟨rfl, rfl⟩ := put_ok h
      obtain rfl := mark_fair h3
      obtain rfl := text_fair h4
      obtain rfl := mark_fair h5
      simp [putS, on]
    · cases h
  · cases h
theorem list_run {ts : List Tk} {between : Bs} {next : Wn} {again : Nat → Wn} {kind : Int} {a : Option Nat} {b : Nat} {ws : List Wn} {fr : List Nat} {S S' : PS} {ws' : List Wn} {fr' : List Nat}
    (hb : match a with | none => fr.length = b + 1 | some _ => b + 2 ≤ fr.length) (hw : Wf ws (b + 1)) (hnx : ∀ vs n, Wf (next :: vs) n = Wf vs (n + 1)) (hag : ∀ i vs n, Wf (again i :: vs) n = (b + 2 ≤ n ∧ Wf vs (b + 1)))
    (hwt : wt next ≤ 5 ∧ ∀ i, wt (again i) = 1) (hns : nst next = 0 ∧ ∀ i, nst (again i) = 0) (hpd : pnd next = 0 ∧ ∀ i, pnd (again i) = 1)
    (hp : S.parts.length + ((match a with | none => 0 | some _ => 1) + sumW pnd ws) ≤ S.pos) (hf : fr.length ≤ S.parts.length) (ho : S.offs.length = S.parts.length)
    (hn : S.nest = sumW nst ws) (h32 : S.nest ≤ 32) (e : listM ts between next again kind a b fr S = .ok ((ws', fr'), S')) : RunI (ws' ++ ws) fr' S' ∧ ((S.pos < S'.pos ∧ sumW wt ws' ≤ 6) ∨ (S'.pos = S.pos ∧ ws' = [])) := by
  unfold listM at e
  split at e
  · injection e with e; injection e with e1 e2; injection e1 with e0 e1
    subst e0 e1 e2
    refine ⟨⟨?_, ?_, hf, ho, ?_, h32⟩, .inl ⟨by simp [on], ?_⟩⟩
    · show Wf (next :: again _ :: ws) fr.length
      rw [hnx, hag]
      refine ⟨?_, hw⟩
      cases a <;> simp only at hb <;> omega
    · simp [on, sumW, hpd.1, hpd.2]
      cases a <;> simp only at hp <;> omega
    · simp [on, sumW, hns.1, hns.2, hn]
    · have := hwt.1
      simp [sumW, hwt.2]; omega
  · cases a with
    | none =>
      simp only at e hb hp
      injection e with e; injection e with e1 e2; injection e1 with e0 e1
      subst e0 e1 e2
      exact ⟨⟨by rw [List.nil_append, hb]; exact hw, by simpa using hp, hf, ho, hn, h32⟩, .inr ⟨rfl, rfl⟩⟩
    | some i =>
      simp only at e hb hp
      obtain ⟨h1, h2, h3⟩ := lay_run (S := S) hw (by omega) (by omega) hf ho hn h32 e
      exact ⟨h1, .inr ⟨h3, h2⟩⟩
theorem step_run {ts : List Tk} {w : Wn} {ws : List Wn} {fr : List Nat} {S : PS} {ws' : List Wn} {fr' : List Nat} {S' : PS} (h : RunI (w :: ws) fr S) (e : stepM ts w fr S = .ok ((ws', fr'), S')) :
    RunI (ws' ++ ws) fr' S' ∧ OnI (w :: ws) (ws' ++ ws) S S' := by
  obtain ⟨hw, hp, hf, ho, hn, h32⟩ := h
  unfold OnI
  rw [sumW_append]
  cases w with
  | expr =>
    simp only [stepM] at e
    injection e with e; injection e with e1 e2; injection e1 with e0 e1
    subst e0 e1 e2
    exact ⟨⟨⟨rfl, hw⟩, by simpa [sumW, pnd] using hp, hf, ho, by simpa [sumW, nst] using hn, h32⟩, .inr ⟨rfl, by simp [sumW, wt] <;> omega⟩⟩
  | conj =>
    simp only [stepM] at e
    injection e with e; injection e with e1 e2; injection e1 with e0 e1
    subst e0 e1 e2
    exact ⟨⟨⟨rfl, hw⟩, by simpa [sumW, pnd] using hp, hf, ho, by simpa [sumW, nst] using hn, h32⟩, .inr ⟨rfl, by simp [sumW, wt] <;> omega⟩⟩
  | ors a b =>
    simp only [stepM] at e
    obtain ⟨h1, h2⟩ := list_run hw.1 hw.2 (fun _ _ => rfl) (fun _ _ _ => rfl) ⟨by decide, fun _ => rfl⟩ ⟨rfl, fun _ => rfl⟩ ⟨rfl, fun _ => rfl⟩ (by cases a <;> simpa [sumW, pnd] using hp) hf ho (by simpa [sumW, nst] using hn) h32 e
    refine ⟨h1, ?_⟩
    rcases h2 with ⟨h2, h3⟩ | ⟨h2, h3⟩
    · exact .inl ⟨h2, by simp [sumW]; omega⟩
    · subst h3; exact .inr ⟨h2, by simp [sumW, wt] <;> omega⟩
  | ands a b =>
    simp only [stepM] at e
    obtain ⟨h1, h2⟩ := list_run hw.1 hw.2 (fun _ _ => rfl) (fun _ _ _ => rfl) ⟨by decide, fun _ => rfl⟩ ⟨rfl, fun _ => rfl⟩ ⟨rfl, fun _ => rfl⟩ (by cases a <;> simpa [sumW, pnd] using hp) hf ho (by simpa [sumW, nst] using hn) h32 e
    refine ⟨h1, ?_⟩
    rcases h2 with ⟨h2, h3⟩ | ⟨h2, h3⟩
    · exact .inl ⟨h2, by simp [sumW]; omega⟩
    · subst h3; exact .inr ⟨h2, by simp [sumW, wt] <;> omega⟩
  | unit =>
    simp only [stepM] at e
    have hp' : S.parts.length + sumW pnd ws ≤ S.pos := by simpa [sumW, pnd] using hp
    have hn' : S.nest = sumW nst ws := by simpa [sumW, nst] using hn
    have hw' : Wf ws (fr.length + 1) := hw
    unfold unitM at e
    split at e
    · obtain ⟨S1, h1, e⟩ := then_ok e
      obtain ⟨rfl, hne⟩ := open_fair h1
      injection e with e; injection e with e1 e2; injection e1 with e0 e1
      subst e0 e1 e2
      exact ⟨⟨⟨rfl, hw'⟩, by simp [sumW, pnd]; omega, hf, ho, by simp [sumW, nst]; omega, by simp; omega⟩, .inl ⟨by simp, by simp [sumW, wt] <;> omega⟩⟩
    split at e
    · obtain ⟨S1, h1, e⟩ := then_ok e
      obtain ⟨rfl, hne⟩ := open_fair h1
      injection e with e; injection e with e1 e2; injection e1 with e0 e1
      subst e0 e1 e2
      exact ⟨⟨hw', by simp [sumW, pnd]; omega, hf, ho, by simp [sumW, nst]; omega, by simp; omega⟩, .inl ⟨by simp, by simp [sumW, wt] <;> omega⟩⟩
    split at e
    · split at e
      · obtain ⟨h1, h2, h3⟩ := leaf_run (S1 := on S) hw' (by simp [on]; omega) hf ho hn' h32 e
        subst h2
        exact ⟨h1, .inl ⟨by rw [h3]; simp [on], by simp [sumW, wt] <;> omega⟩⟩
      split at e
      · obtain ⟨h1, h2, h3⟩ := leaf_run (S1 := on S) hw' (by simp [on]; omega) hf ho hn' h32 e
        subst h2
        exact ⟨h1, .inl ⟨by rw [h3]; simp [on], by simp [sumW, wt] <;> omega⟩⟩
      split at e
      · obtain ⟨h1, h2, h3⟩ := sel_run hw' hp' hf ho hn' h32 e
        exact ⟨h1, .inl ⟨h2, by simp [sumW, wt] <;> omega⟩⟩
      split at e
      · obtain ⟨h1, h2, h3⟩ := sel_run hw' hp' hf ho hn' h32 e
        exact ⟨h1, .inl ⟨h2, by simp [sumW, wt] <;> omega⟩⟩
      split at e
      · unfold tolM at e
        obtain ⟨S1, g1, e⟩ := then_ok e
        obtain ⟨s, S2, g2, e⟩ := bind_ok e
        obtain ⟨S3, g3, e⟩ := then_ok e
        obtain rfl := mark_fair g1
        obtain rfl := text_fair g2
        obtain rfl := mark_fair g3
        obtain ⟨h1, h2, h3⟩ := leaf_run (S1 := on (on (on (on S)))) hw' (by simp [on]; omega) hf ho hn' h32 e
        subst h2
        exact ⟨h1, .inl ⟨by rw [h3]; simp [on]; omega, by simp [sumW, wt] <;> omega⟩⟩
      · injection e with e; injection e with e1 e2; injection e1 with e0 e1
        subst e0 e1 e2
        exact ⟨⟨⟨rfl, hw'⟩, by simpa [sumW, pnd] using hp', hf, ho, by simpa [sumW, nst] using hn', h32⟩, .inr ⟨rfl, by simp [sumW, wt] <;> omega⟩⟩
    · injection e with e; injection e with e1 e2; injection e1 with e0 e1
      subst e0 e1 e2
      exact ⟨⟨⟨rfl, hw'⟩, by simpa [sumW, pnd] using hp', hf, ho, by simpa [sumW, nst] using hn', h32⟩, .inr ⟨rfl, by simp [sumW, wt] <;> omega⟩⟩
  | term =>
    simp only [stepM] at e
    have hp' : S.parts.length + sumW pnd ws ≤ S.pos := by simpa [sumW, pnd] using hp
    have hn' : S.nest = sumW nst ws := by simpa [sumW, nst] using hn
    have hw' : Wf ws (fr.length + 1) := hw
    unfold termM at e
    split at e
    · obtain ⟨h1, h2, h3⟩ := leaf_run (S1 := on S) hw' (by simp [on]; omega) hf ho hn' h32 e
      subst h2
      exact ⟨h1, .inl ⟨by rw [h3]; simp [on], by simp [sumW, wt] <;> omega⟩⟩
    split at e
    · obtain ⟨h1, h2, h3⟩ := leaf_run (S1 := on S) hw' (by simp [on]; omega) hf ho hn' h32 e
      subst h2
      exact ⟨h1, .inl ⟨by rw [h3]; simp [on], by simp [sumW, wt] <;> omega⟩⟩
    split at e
    · obtain ⟨h1, h2, h3⟩ := one_run (fun i S' g => ⟨set_fair _ _ _ g, set_takes _ _ _ g, set_more g⟩) hw' hp' hf ho hn' h32 e
      subst h2
      exact ⟨h1, .inl ⟨h3, by simp [sumW, wt] <;> omega⟩⟩
    split at e
    · obtain ⟨S1, h1, e⟩ := then_ok e
      obtain ⟨rfl, hne⟩ := open_fair h1
      have hne' : S.nest ≠ 32 := hne
      injection e with e; injection e with e1 e2; injection e1 with e0 e1
      subst e0 e1 e2
      exact ⟨⟨⟨rfl, hw'⟩, by simp [sumW, pnd, on]; omega, hf, ho, by simp [sumW, nst, on]; omega, by simp [on]; omega⟩, .inl ⟨by simp [on]; omega, by simp [sumW, wt] <;> omega⟩⟩
    split at e
    · obtain ⟨h1, h2, h3⟩ := sel_run hw' hp' hf ho hn' h32 e
      exact ⟨h1, .inl ⟨h2, by simp [sumW, wt] <;> omega⟩⟩
    · obtain ⟨h1, h2, h3⟩ := one_run (fun i S' g => ⟨owned_fair _ _ _ g, owned_takes _ _ _ g, owned_more g⟩) hw' hp' hf ho hn' h32 e
      subst h2
      exact ⟨h1, .inl ⟨h3, by simp [sumW, wt] <;> omega⟩⟩
  | rel b =>
    simp only [stepM] at e
    have hb : fr.length = b + 1 := hw.1
    obtain ⟨kn, S2, h2, e⟩ := bind_ok e
    obtain rfl := relation_fair h2
    injection e with e; injection e with e1 e2; injection e1 with e0 e1
    subst e0 e1 e2
    refine ⟨⟨⟨by omega, hw.2⟩, ?_, hf, ho, (show S.nest = _ by simpa [sumW, nst] using hn), h32⟩, .inl ⟨by simp [on], by simp [sumW, wt] <;> omega⟩⟩
    simp [sumW, pnd, on] at hp ⊢; omega
  | close =>
    simp only [stepM] at e
    obtain ⟨S1, h1, e⟩ := then_ok e
    obtain rfl := shut_fair h1
    injection e with e; injection e with e1 e2; injection e1 with e0 e1
    subst e0 e1 e2
    refine ⟨⟨hw, ?_, hf, ho, ?_, ?_⟩, .inl ⟨by simp [on, closeN], by simp [sumW, wt] <;> omega⟩⟩
    · simp [sumW, pnd, on, closeN] at hp ⊢; omega
    · simp [sumW, nst, on, closeN] at hn ⊢; omega
    · simp [on, closeN]; omega
  | neg i b =>
    simp only [stepM] at e
    have hb : fr.length = b + 1 := hw.1
    simp only [sumW, nst, pnd] at hn hp
    obtain ⟨h1, h2, h3⟩ := lay_run (S := S) (S1 := closeN S) hw.2 (by omega) (by simp [closeN]; omega) hf ho (by simp [closeN]; omega) (by simp [closeN]; omega) e
    subst h2
    exact ⟨h1, .inr ⟨h3, by simp [sumW, wt] <;> omega⟩⟩
  | part k s i b =>
    simp only [stepM] at e
    have hb : fr.length = b + 1 := hw.1
    simp only [sumW, nst, pnd] at hn hp
    obtain ⟨h1, h2, h3⟩ := lay_run (S := S) hw.2 (by omega) (by omega) hf ho (by omega) h32 e
    subst h2
    exact ⟨h1, .inr ⟨h3, by simp [sumW, wt] <;> omega⟩⟩
  | cmp k n i b =>
    simp only [stepM] at e
    have hb : fr.length = b + 2 := hw.1
    simp only [sumW, nst, pnd] at hn hp
    obtain ⟨h1, h2, h3⟩ := lay_run (S := S) hw.2 (by omega) (by omega) hf ho (by omega) h32 e
    subst h2
    exact ⟨h1, .inr ⟨h3, by simp [sumW, wt] <;> omega⟩⟩
  | stop =>
    simp only [stepM] at e
    split at e
    · injection e with e; injection e with e1 e2; injection e1 with e0 e1
      subst e0 e1 e2
      exact ⟨⟨hw, by simpa [sumW, pnd] using hp, hf, ho, by simpa [sumW, nst] using hn, h32⟩, .inr ⟨rfl, by simp [sumW, wt] <;> omega⟩⟩
    · cases e

end Go.Proofs.YtfiljgkcipnghaaGreatDoor.X
