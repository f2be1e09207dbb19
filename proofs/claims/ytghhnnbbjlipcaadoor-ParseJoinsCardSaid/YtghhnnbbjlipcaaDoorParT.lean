/-
  Plain law: the same descent over tokens that agree as far as it reads; further on, deeper, behind other parts.
-/
import Derived.Test.YtghhnnbbjlipcaaDoorParS
set_option linter.unusedVariables false
set_option linter.unusedSimpArgs false
namespace Go.Proofs.YtghhnnbbjlipcaaDoor.X
/-- Two rows of tokens; how much further on, behind which parts and places, how much deeper the second descent stands. -/
structure Cx where
  ts : List Tk
  us : List Tk
  a : Nat
  Q : List PD
  O : List Nat
  c : Nat
def eqT (x y : Tk) : Prop := x.kind = y.kind ∧ x.text = y.text ∧ x.num = y.num
def isTk (t : Tk) (kind : Int) (text : Bs) : Bool := t.kind == kind && t.text == text
/-- The token of this number is the same. -/
def AtI (C : Cx) (i : Nat) : Prop := eqT (C.ts.getD i endT) (C.us.getD (i + C.a) endT)
/-- It goes on a list there just as here. -/
def ClI (C : Cx) (i : Nat) : Prop := ∀ m : Bs, m = [38, 38] ∨ m = [124, 124] → isTk (C.ts.getD i endT) 4 m = isTk (C.us.getD (i + C.a) endT) 4 m
theorem AtI.cl {C : Cx} {i : Nat} (h : AtI C i) : ClI C i := fun m _ => by unfold isTk; rw [h.1, h.2.1]
def shP (b : Nat) (p : PD) : PD := { p with kids := p.kids.map (· + b) }
def sh (C : Cx) (S : PS) : PS := ⟨S.pos + C.a, S.nest + C.c, C.Q ++ S.parts.map (shP C.Q.length), C.O ++ S.offs.map (· + C.a)⟩
/-- The tokens agree as far as this has been read. -/
def EndAg {α : Type} (C : Cx) : PR α → Prop
  | .ok (_, S) => (∀ j, j < S.pos → AtI C j) ∧ ClI C S.pos
  | .error e => ∀ j, j ≤ e.2 → AtI C j
/-- The same answer further on; or the nest bars it. -/
def RR {α : Type} (C : Cx) (v : α → α) : PR α → PR α → Prop
  | .ok (x, S), .ok (y, T) => y = v x ∧ T = sh C S
  | .error e, .error e' => e' = (e.1, e.2 + C.a) ∨ (0 < C.c ∧ e'.1 = 122)
  | .ok _, .error e' => 0 < C.c ∧ e'.1 = 122
  | .error _, .ok _ => False
def SimP {α : Type} (C : Cx) (p : Nat) (v : α → α) (r r' : PR α) : Prop := p ≤ endpos r ∧ (EndAg C r → RR C v r r')
theorem rr_nest {α : Type} {C : Cx} {v : α → α} {e' : PF} (h : 0 < C.c ∧ e'.1 = 122) (r : PR α) : RR C v r (.error e') := by
  cases r with
  | error e => exact .inr h
  | ok p => exact h
theorem ag_mid {α : Type} {C : Cx} {r : PR α} {p : Nat} (h : EndAg C r) (hp : p ≤ endpos r) : (∀ j, j < p → AtI C j) ∧ ClI C p := by
  cases r with
  | error e => exact ⟨fun j hj => h j (by simp only [endpos] at hp; omega), (h p hp).cl⟩
  | ok q =>
    obtain ⟨x, S⟩ := q
    simp only [endpos] at hp
    refine ⟨fun j hj => h.1 j (by omega), ?_⟩
    rcases Nat.lt_or_ge p S.pos with hlt | hge
    · exact (h.1 p hlt).cl
    · rw [show p = S.pos by omega]; exact h.2
theorem sim_bind {α β : Type} {C : Cx} {p : Nat} {v : α → α} {u : β → β} {x x' : PR α} {f f' : α → PS → PR β} (hx : SimP C p v x x') (hf : ∀ a S1, x = .ok (a, S1) → SimP C S1.pos u (f a S1) (f' (v a) (sh C S1))) (hp : ∀ a S1, x = .ok (a, S1) → p ≤ S1.pos) :
    SimP C p u (bindS x f) (bindS x' f') := by
  cases x with
  | error e =>
    refine ⟨hx.1, fun h => ?_⟩
    have h2 := hx.2 h
    cases x' with
    | error e' => exact h2
    | ok q => exact h2.elim
  | ok q =>
    obtain ⟨a, S1⟩ := q
    have h1 := hf a S1 rfl
    refine ⟨Nat.le_trans (hp a S1 rfl) h1.1, fun h => ?_⟩
    have h2 := hx.2 (ag_mid h h1.1)
    cases x' with
    | error e' => exact rr_nest h2 _
    | ok q' =>
      obtain ⟨y, T⟩ := q'
      obtain ⟨rfl, rfl⟩ := h2
      exact h1.2 h
def un : Except PF PS → PR Unit
  | .ok S => .ok ((), S)
  | .error e => .error e
theorem then_un {β : Type} (x : Except PF PS) (f : PS → PR β) : thenS x f = bindS (un x) fun _ S => f S := by cases x <;> rfl
theorem un_ok {x : Except PF PS} {z : Unit} {S : PS} (h : un x = .ok (z, S)) : x = .ok S := by
  cases x with
  | error e => cases h
  | ok S1 => injection h with h; injection h with h1 h2; rw [h2]
theorem sim_then {β : Type} {C : Cx} {p : Nat} {u : β → β} {x x' : Except PF PS} {f f' : PS → PR β} (hx : SimP C p id (un x) (un x')) (hf : ∀ S1, x = .ok S1 → SimP C S1.pos u (f S1) (f' (sh C S1))) (hp : ∀ S1, x = .ok S1 → p ≤ S1.pos) :
    SimP C p u (thenS x f) (thenS x' f') := by
  rw [then_un, then_un]
  exact sim_bind hx (fun z S1 h => hf S1 (un_ok h)) (fun z S1 h => hp S1 (un_ok h))
theorem pk_sh {C : Cx} {S : PS} (h : AtI C S.pos) : (pk C.us (sh C S)).kind = (pk C.ts S).kind ∧ (pk C.us (sh C S)).text = (pk C.ts S).text ∧ (pk C.us (sh C S)).num = (pk C.ts S).num :=
  ⟨h.1.symm, h.2.1.symm, h.2.2.symm⟩
theorem is_sh {C : Cx} {S : PS} (h : AtI C S.pos) (k : Int) (m : Bs) : isT C.us (sh C S) k m = isT C.ts S k m := by
  unfold isT; rw [(pk_sh h).1, (pk_sh h).2.1]
theorem wrong_sh {C : Cx} {S : PS} (h : AtI C S.pos) : wrongP C.us (sh C S) = ((wrongP C.ts S).1, (wrongP C.ts S).2 + C.a) := by
  unfold wrongP; rw [(pk_sh h).1]; split <;> rfl
theorem on_sh (C : Cx) (S : PS) : on (sh C S) = sh C (on S) := by simp [on, sh]; omega
/-- The token here is the same, where the answer lies behind it. -/
theorem at_here {α : Type} {C : Cx} {r : PR α} {p : Nat} (h : EndAg C r) (h1 : ∀ x S, r = .ok (x, S) → p < S.pos) (h2 : ∀ e, r = .error e → p ≤ e.2) : AtI C p := by
  cases r with
  | error e => exact h p (h2 e rfl)
  | ok q => obtain ⟨x, S⟩ := q; exact h.1 p (h1 x S rfl)
theorem mark_sim (C : Cx) (m : Bs) (S : PS) : SimP C S.pos id (un (markP C.ts m S)) (un (markP C.us m (sh C S))) := by
  constructor
  · cases h : markP C.ts m S with
    | error e => simp only [un, endpos]; rw [mark_err h]; exact Nat.le_refl _
    | ok S1 => simp only [un, endpos]; rw [mark_fair h]; simp [on]
  · intro hE
    have hA : AtI C S.pos := at_here hE (fun x S1 h => by rw [mark_fair (un_ok h)]; simp [on]) (fun e h => by
      cases hm : markP C.ts m S with
      | error f => rw [hm] at h; injection h with h; rw [← h, mark_err hm]; exact Nat.le_refl _
      | ok S1 => rw [hm] at h; cases h)
    unfold markP
    rw [is_sh hA]
    split
    · exact ⟨rfl, on_sh C S⟩
    · rw [wrong_sh hA]; exact .inl rfl
theorem open_sim (C : Cx) (m : Bs) (S : PS) (hn : S.nest + C.c ≤ 32) : SimP C S.pos id (un (openP C.ts m S)) (un (openP C.us m (sh C S))) := by
  constructor
  · cases h : openP C.ts m S with
    | error e => simp only [un, endpos]; rw [open_err h]; exact Nat.le_refl _
    | ok S1 => simp only [un, endpos]; rw [(open_fair h).1]; simp
  · intro hE
    have hA : AtI C S.pos := at_here hE (fun x S1 h => by rw [(open_fair (un_ok h)).1]; simp) (fun e h => by
      cases hm : openP C.ts m S with
      | error f => rw [hm] at h; injection h with h; rw [← h, open_err hm]; exact Nat.le_refl _
      | ok S1 => rw [hm] at h; cases h)
    unfold openP
    rw [is_sh hA]
    split
    · by_cases h32 : S.nest = 32
      · have hc : (sh C S).nest = 32 := by simp only [sh]; omega
        rw [if_pos h32, if_pos hc]
        exact .inl rfl
      · rw [if_neg h32]
        by_cases hc : (sh C S).nest = 32
        · rw [if_pos hc]; exact ⟨by simp only [sh] at hc; omega, rfl⟩
        · rw [if_neg hc]; exact ⟨rfl, by simp [sh]; omega⟩
    · rw [wrong_sh hA]; exact .inl rfl
theorem shut_sim (C : Cx) (S : PS) (hn : 0 < S.nest) : SimP C S.pos id (un (shutP C.ts S)) (un (shutP C.us (sh C S))) := by
  have h := mark_sim C [41] S
  unfold shutP
  cases h1 : markP C.ts [41] S with
  | error e =>
    rw [h1] at h
    refine ⟨h.1, fun hE => ?_⟩
    have h2 := h.2 hE
    cases h3 : markP C.us [41] (sh C S) with
    | error e' => rw [h3] at h2; exact h2
    | ok T => rw [h3] at h2; exact h2.elim
  | ok S1 =>
    rw [h1] at h
    refine ⟨h.1, fun hE => ?_⟩
    have h2 := h.2 hE
    cases h3 : markP C.us [41] (sh C S) with
    | error e' => rw [h3] at h2; exact h2
    | ok T =>
      rw [h3] at h2
      obtain ⟨_, rfl⟩ := h2
      refine ⟨rfl, ?_⟩
      rw [mark_fair h1]
      simp [closeN, sh, on]; omega
theorem text_sim (C : Cx) (S : PS) : SimP C S.pos id (textP C.ts S) (textP C.us (sh C S)) := by
  constructor
  · cases h : textP C.ts S with
    | error e => simp only [endpos]; rw [text_err h]; exact Nat.le_refl _
    | ok q => obtain ⟨s, S1⟩ := q; simp only [endpos]; rw [text_fair h]; simp [on]
  · intro hE
    have hA : AtI C S.pos := at_here hE (fun x S1 h => by rw [text_fair h]; simp [on]) (fun e h => by rw [text_err h]; exact Nat.le_refl _)
    unfold textP
    rw [(pk_sh hA).1, (pk_sh hA).2.1]
    split
    · exact ⟨rfl, on_sh C S⟩
    · rw [wrong_sh hA]; exact .inl rfl
theorem put_sim (C : Cx) (at_ p : Nat) (q : PD) (S : PS) (h : p ≤ S.pos) : SimP C p (· + C.Q.length) (putP at_ q S) (putP (at_ + C.a) (shP C.Q.length q) (sh C S)) := by
  refine ⟨h, fun _ => ⟨?_, ?_⟩⟩
  · simp [sh]; omega
  · simp [putS, sh]
theorem sim_list {C : Cx} {m : Bs} {kind : Int} {one one' : PS → PR Nat} {n : Nat} (hm : m = [38, 38] ∨ m = [124, 124]) (h1 : ∀ S, S.nest = n → SimP C S.pos (· + C.Q.length) (one S) (one' (sh C S))) (hf : FairF one) (he : ErrF one) (S : PS) (hS : S.nest = n) :
    SimP C S.pos (· + C.Q.length) (listP C.ts m kind one S) (listP C.us m kind one' (sh C S)) := by
  have loop : ∀ (k : Nat) (kids : List Nat) (S : PS), S.nest = n → SimP C S.pos (List.map (· + C.Q.length)) (listLoop C.ts m one k kids S) (listLoop C.us m one' k (kids.map (· + C.Q.length)) (sh C S)) := by
    intro k
    induction k with
    | zero => intro kids S _; exact ⟨Nat.le_refl _, fun _ => ⟨rfl, rfl⟩⟩
    | succ k ih =>
      intro kids S hS
      have hmo : S.pos ≤ endpos (listLoop C.ts m one (k + 1) kids S) := by
        cases hl : listLoop C.ts m one (k + 1) kids S with
        | error e => exact loop_err he hf _ _ _ _ hl
        | ok q => obtain ⟨ks, S'⟩ := q; exact (loop_fair hf _ _ _ _ _ hl).1.pos
      refine ⟨hmo, fun hE => ?_⟩
      have hcl := (ag_mid hE hmo).2
      have hi : isT C.us (sh C S) 4 m = isT C.ts S 4 m := (hcl m hm).symm
      have e1 : ∀ ks, listLoop C.ts m one (k + 1) ks S = if isT C.ts S 4 m then bindS (one (on S)) (fun i S' => listLoop C.ts m one k (ks ++ [i]) S') else .ok (ks, S) := by
        intro ks; simp only [listLoop]; split
        · cases one (on S) <;> rfl
        · rfl
      have e2 : ∀ ks, listLoop C.us m one' (k + 1) ks (sh C S) = if isT C.us (sh C S) 4 m then bindS (one' (on (sh C S))) (fun i S' => listLoop C.us m one' k (ks ++ [i]) S') else .ok (ks, sh C S) := by
        intro ks; simp only [listLoop]; split
        · cases one' (on (sh C S)) <;> rfl
        · rfl
      rw [e1] at hE ⊢
      rw [e2, hi]
      split at hE
      · rename_i hy
        rw [if_pos hy, if_pos hy, on_sh]
        refine (sim_bind (h1 (on S) hS) (fun i S1 hi1 => ?_) (fun i S1 hi1 => (hf _ _ _ hi1).pos)).2 hE
        have := ih (kids ++ [i]) S1 (by rw [(hf _ _ _ hi1).nest]; exact hS)
        rw [List.map_append] at this
        exact this
      · rename_i hy
        rw [if_neg hy, if_neg hy]
        exact ⟨rfl, rfl⟩
  have e1 : listP C.ts m kind one S = bindS (one S) (fun first S1 => bindS (listLoop C.ts m one 5000 [first] S1) (fun kids S2 => if kids.length = 1 then .ok (first, S2) else putP S1.pos ⟨kind, [], 0, kids⟩ S2)) := by
    unfold listP
    cases one S with
    | error e => rfl
    | ok q => obtain ⟨i, S1⟩ := q; simp only [bindS]; cases listLoop C.ts m one 5000 [i] S1 <;> rfl
  have e2 : listP C.us m kind one' (sh C S) = bindS (one' (sh C S)) (fun first S1 => bindS (listLoop C.us m one' 5000 [first] S1) (fun kids S2 => if kids.length = 1 then .ok (first, S2) else putP S1.pos ⟨kind, [], 0, kids⟩ S2)) := by
    unfold listP
    cases one' (sh C S) with
    | error e => rfl
    | ok q => obtain ⟨i, S1⟩ := q; simp only [bindS]; cases listLoop C.us m one' 5000 [i] S1 <;> rfl
  rw [e1, e2]
  refine sim_bind (h1 S hS) (fun i S1 hi1 => ?_) (fun i S1 hi1 => (hf _ _ _ hi1).pos)
  refine sim_bind (loop 5000 [i] S1 (by rw [(hf _ _ _ hi1).nest]; exact hS)) (fun ks S2 hl => ?_) (fun ks S2 hl => (loop_fair hf _ _ _ _ _ hl).1.pos)
  have hlen : (ks.map (· + C.Q.length)).length = ks.length := List.length_map _
  rw [hlen]
  split
  · exact ⟨Nat.le_refl _, fun _ => ⟨rfl, rfl⟩⟩
  · exact put_sim C S1.pos S2.pos ⟨kind, [], 0, ks⟩ S2 (Nat.le_refl _)
/-- What stands one deeper agrees. -/
structure LvSim (C : Cx) (n : Nat) (lo lo' : Lv) : Prop where
  expr : ∀ S, S.nest = n → SimP C S.pos (· + C.Q.length) (lo.expr S) (lo'.expr (sh C S))
  unit : ∀ S, S.nest = n → SimP C S.pos (· + C.Q.length) (lo.unit S) (lo'.unit (sh C S))
  term : ∀ S, S.nest = n → SimP C S.pos (· + C.Q.length) (lo.term S) (lo'.term (sh C S))
theorem sim_weak {α : Type} {C : Cx} {p q : Nat} {v : α → α} {r r' : PR α} (h : SimP C q v r r') (hp : p ≤ q) : SimP C p v r r' := ⟨Nat.le_trans hp h.1, h.2⟩
theorem open_full (C : Cx) {m : Bs} {S S1 : PS} (hA : AtI C S.pos) (h : openP C.ts m S = .ok S1) (hT : S.nest + C.c = 32) : openP C.us m (sh C S) = .error (122, (sh C S).pos) := by
  unfold openP at h ⊢
  rw [is_sh hA]
  split at h
  · rename_i hi
    rw [if_pos hi, if_pos (by simp only [sh]; exact hT)]
  · cases h
/-- Something is opened, and what follows. -/
theorem sim_open {β : Type} {C : Cx} {p : Nat} {u : β → β} {m : Bs} {S : PS} {f f' : PS → PR β} (hn : S.nest + C.c ≤ 32) (hp : p ≤ endpos (thenS (openP C.ts m S) f)) (hA : EndAg C (thenS (openP C.ts m S) f) → AtI C S.pos)
    (hf : S.nest + C.c ≠ 32 → ∀ S1, openP C.ts m S = .ok S1 → SimP C S1.pos u (f S1) (f' (sh C S1))) (hpS : p ≤ S.pos) : SimP C p u (thenS (openP C.ts m S) f) (thenS (openP C.us m (sh C S)) f') := by
  by_cases hT : S.nest + C.c = 32
  · refine ⟨hp, fun hE => ?_⟩
    cases hx : openP C.ts m S with
    | error e =>
      have h2 := (open_sim C m S hn).2
      rw [hx] at h2 hE
      have h3 := h2 hE
      cases hy : openP C.us m (sh C S) with
      | error e' => rw [hy] at h3; exact h3
      | ok T => rw [hy] at h3; exact h3.elim
    | ok S1 =>
      have h4 := open_full C (hA hE) hx hT
      rw [h4]
      exact rr_nest ⟨by have := (open_fair hx).2; omega, rfl⟩ _
  · exact sim_then (sim_weak (open_sim C m S hn) hpS) (fun S1 h => hf hT S1 h) (fun S1 h => by rw [(open_fair h).1]; simp only; omega)
theorem scoped_end {ts : List Tk} {lo : Lv} (hl : LvFair lo) (he : LvErr lo) (kind : Int) (S : PS) : (∀ a S', scopedP ts lo kind S = .ok (a, S') → S.pos + 1 < S'.pos) ∧ (∀ e, scopedP ts lo kind S = .error e → S.pos + 1 ≤ e.2) := by
  constructor
  · intro a S' h
    unfold scopedP at h
    obtain ⟨S1, h1, h⟩ := then_ok h
    obtain ⟨key, S2, h2, h⟩ := bind_ok h
    obtain ⟨S3, h3, h⟩ := then_ok h
    obtain ⟨kid, S4, h4, h⟩ := bind_ok h
    obtain ⟨S5, h5, h⟩ := then_ok h
    obtain ⟨rfl, rfl⟩ := put_ok h
    obtain ⟨rfl, hn⟩ := open_fair h1
    rw [text_fair h2] at h3
    rw [mark_fair h3] at h4
    have := (hl.expr _ _ _ h4).pos
    rw [shut_fair h5]
    simp only [X.on] at this
    simp [putS, closeN, X.on]; omega
  · intro e h
    unfold scopedP at h
    rcases then_err h with h | ⟨S1, h1, h⟩
    · have := open_err h; simp only [X.on] at this; omega
    obtain ⟨rfl, hn⟩ := open_fair h1
    rcases bind_err h with h | ⟨key, S2, h2, h⟩
    · have := text_err h; simp only [X.on] at this; omega
    rw [text_fair h2] at h
    rcases then_err h with h | ⟨S3, h3, h⟩
    · have := mark_err h; simp only [X.on] at this; omega
    rw [mark_fair h3] at h
    rcases bind_err h with h | ⟨kid, S4, h4, h⟩
    · have := he.expr _ _ h; simp only [X.on] at this; omega
    have a := (hl.expr _ _ _ h4).pos
    simp only [X.on] at a
    rcases then_err h with h | ⟨S5, h5, h⟩
    · have := shut_err h; omega
    · exact (put_err h).elim
theorem endpos_ge {α : Type} {r : PR α} {p : Nat} (h1 : ∀ a S', r = .ok (a, S') → p ≤ S'.pos) (h2 : ∀ e, r = .error e → p ≤ e.2) : p ≤ endpos r := by
  cases r with
  | error e => exact h2 e rfl
  | ok q => obtain ⟨a, S'⟩ := q; exact h1 a S' rfl
/-- Two levels that agree: what they know of what stands one deeper. -/
structure Two (C : Cx) (n : Nat) (lo lo' : Lv) : Prop where
  le : n + C.c ≤ 32
  fair : LvFair lo
  err : LvErr lo
  sim : n + C.c ≠ 32 → LvSim C (n + 1) lo lo'
theorem sim_scoped {C : Cx} {lo lo' : Lv} {n : Nat} (h : Two C n lo lo') (kind : Int) (S : PS) (hS : S.nest = n) :
    SimP C S.pos (· + C.Q.length) (scopedP C.ts lo kind S) (scopedP C.us lo' kind (sh C S)) := by
  have he := scoped_end (ts := C.ts) h.fair h.err kind S
  have hin : SimP C S.pos (· + C.Q.length) (scopedP C.ts lo kind S) (scopedP C.us lo' kind (sh C S)) := by
    have e : scopedP C.us lo' kind (sh C S) = thenS (openP C.us [40] (sh C (on S))) fun S1 => bindS (textP C.us S1) fun key S2 => thenS (markP C.us [44] S2) fun S3 => bindS (lo'.expr S3) fun kid S4 => thenS (shutP C.us S4) fun S5 => putP (S.pos + C.a) ⟨kind, key, 0, [kid]⟩ S5 := by
      unfold scopedP; rw [on_sh]; rfl
    rw [e]
    unfold scopedP at he ⊢
    refine sim_open (by simp only [on]; have := h.le; omega) (endpos_ge (fun a S' h => by have := he.1 a S' h; omega) (fun e h => by have := he.2 e h; omega)) (fun hE => at_here hE (fun a S' h => by have := he.1 a S' h; simpa [on] using this) (fun e h => by have := he.2 e h; simpa [on] using this)) (fun hT S1 h1 => ?_) (by simp [on])
    have hsim := h.sim (by simpa [on, hS] using hT)
    have f1 := (open_fair h1).1
    refine sim_bind (text_sim C S1) (fun key S2 h2 => ?_) (fun key S2 h2 => by rw [text_fair h2]; simp [on])
    have f2 := text_fair h2
    refine sim_then (mark_sim C [44] S2) (fun S3 h3 => ?_) (fun S3 h3 => by rw [mark_fair h3]; simp [on])
    have f3 := mark_fair h3
    have n3 : S3.nest = n + 1 := by rw [f3, f2, f1]; simp [on, hS]
    refine sim_bind (hsim.expr S3 n3) (fun kid S4 h4 => ?_) (fun kid S4 h4 => (h.fair.expr _ _ _ h4).pos)
    have f4 := h.fair.expr _ _ _ h4
    refine sim_then (shut_sim C S4 (by rw [f4.nest, n3]; omega)) (fun S5 h5 => ?_) (fun S5 h5 => by rw [shut_fair h5]; simp [closeN, on])
    exact put_sim C S.pos S5.pos ⟨kind, key, 0, [kid]⟩ S5 (Nat.le_refl _)
  exact hin
theorem relation_sim (C : Cx) (S : PS) : SimP C S.pos id (relationP C.ts S) (relationP C.us (sh C S)) := by
  refine ⟨endpos_ge (fun a S' h => by rw [relation_fair h]; simp [on]) (fun e h => by rw [relation_err h]; exact Nat.le_refl _), fun hE => ?_⟩
  have hA : AtI C S.pos := at_here hE (fun x S1 h => by rw [relation_fair h]; simp [on]) (fun e h => by rw [relation_err h]; exact Nat.le_refl _)
  unfold relationP
  simp only [is_sh hA, wrong_sh hA]
  repeat' split
  all_goals (first | exact ⟨rfl, on_sh C S⟩ | exact .inl rfl)
theorem ownN_end {ts : List Tk} (at_ : Nat) (of_ : Int) (S : PS) : (∀ a S', ownN ts at_ of_ S = .ok (a, S') → S.pos < S'.pos) ∧ (∀ e, ownN ts at_ of_ S = .error e → S.pos ≤ e.2) := by
  constructor
  · intro a S' h
    unfold ownN at h
    split at h
    · obtain ⟨rfl, rfl⟩ := put_ok h; simp [putS, X.on]
    split at h
    · obtain ⟨rfl, rfl⟩ := put_ok h; simp [putS, X.on]
    split at h
    · obtain ⟨rfl, rfl⟩ := put_ok h; simp [putS, X.on]
    split at h
    · obtain ⟨S3, h3, h⟩ := then_ok h
      obtain ⟨s, S4, h4, h⟩ := bind_ok h
      obtain ⟨S5, h5, h⟩ := then_ok h
      obtain ⟨rfl, rfl⟩ := put_ok h
      rw [mark_fair h3] at h4
      rw [text_fair h4] at h5
      rw [mark_fair h5]
      simp [putS, X.on]; omega
    · cases h
  · intro e h
    unfold ownN at h
    split at h
    · exact (put_err h).elim
    split at h
    · exact (put_err h).elim
    split at h
    · exact (put_err h).elim
    split at h
    · rcases then_err h with h | ⟨S3, h3, h⟩
      · have := mark_err h; simp only [X.on] at this; omega
      rw [mark_fair h3] at h
      rcases bind_err h with h | ⟨s, S4, h4, h⟩
      · have := text_err h; simp only [X.on] at this; omega
      rw [text_fair h4] at h
      rcases then_err h with h | ⟨S5, h5, h⟩
      · have := mark_err h; simp only [X.on] at this; omega
      · exact (put_err h).elim
    · injection h with h; rw [← h, wrong_at]; exact Nat.le_refl _
theorem ownK_end {ts : List Tk} (at_ : Nat) (of_ : Int) (S : PS) : (∀ a S', ownK ts at_ of_ S = .ok (a, S') → S.pos < S'.pos) ∧ (∀ e, ownK ts at_ of_ S = .error e → S.pos ≤ e.2) := by
  constructor
  · intro a S' h
    unfold ownK at h
    split at h
    · obtain ⟨s, S2, h2, h⟩ := bind_ok h
      obtain ⟨S3, h3, h⟩ := then_ok h
      obtain ⟨rfl, rfl⟩ := put_ok h
      rw [text_fair h2] at h3
      rw [mark_fair h3]
      simp [putS, X.on]; omega
    split at h
    · have := (ownN_end at_ of_ (on S)).1 _ _ h; simp only [X.on] at this; omega
    · cases h
  · intro e h
    unfold ownK at h
    split at h
    · rcases bind_err h with h | ⟨s, S2, h2, h⟩
      · have := text_err h; simp only [X.on] at this; omega
      rw [text_fair h2] at h
      rcases then_err h with h | ⟨S3, h3, h⟩
      · have := mark_err h; simp only [X.on] at this; omega
      · exact (put_err h).elim
    split at h
    · have := (ownN_end at_ of_ (on S)).2 _ h; simp only [X.on] at this; omega
    · injection h with h; rw [← h, wrong_at]; exact Nat.le_refl _
theorem sim_ownN (C : Cx) (at_ : Nat) (of_ : Int) (S : PS) : SimP C S.pos (· + C.Q.length) (ownN C.ts at_ of_ S) (ownN C.us (at_ + C.a) of_ (sh C S)) := by
  have hn := ownN_end (ts := C.ts) at_ of_ S
  refine ⟨endpos_ge (fun a S' h => Nat.le_of_lt (hn.1 _ _ h)) (fun e h => hn.2 _ h), fun hE => ?_⟩
  have hA : AtI C S.pos := at_here hE (fun x S1 h => hn.1 _ _ h) (fun e h => hn.2 _ h)
  unfold ownN at hE ⊢
  simp only [is_sh hA, wrong_sh hA, on_sh]
  split at hE
  · rename_i h; rw [if_pos h, if_pos h]; exact (put_sim C at_ _ ⟨15, [], of_, []⟩ (on S) (Nat.le_refl _)).2 hE
  rename_i c1; rw [if_neg c1, if_neg c1]
  split at hE
  · rename_i h; rw [if_pos h, if_pos h]; exact (put_sim C at_ _ ⟨16, [], of_, []⟩ (on S) (Nat.le_refl _)).2 hE
  rename_i c2; rw [if_neg c2, if_neg c2]
  split at hE
  · rename_i h; rw [if_pos h, if_pos h]; exact (put_sim C at_ _ ⟨17, [], of_, []⟩ (on S) (Nat.le_refl _)).2 hE
  rename_i c3; rw [if_neg c3, if_neg c3]
  split at hE
  · rename_i h; rw [if_pos h, if_pos h]
    refine (sim_then (mark_sim C [40] (on S)) (fun S3 h3 => ?_) (fun S3 h3 => by rw [mark_fair h3]; simp [on])).2 hE
    refine sim_bind (text_sim C S3) (fun s S4 h4 => ?_) (fun s S4 h4 => by rw [text_fair h4]; simp [on])
    refine sim_then (mark_sim C [41] S4) (fun S5 h5 => ?_) (fun S5 h5 => by rw [mark_fair h5]; simp [on])
    exact put_sim C at_ S5.pos ⟨18, s, of_, []⟩ S5 (Nat.le_refl _)
  · rename_i h; rw [if_neg h, if_neg h]; exact .inl rfl
theorem sim_ownK (C : Cx) (at_ : Nat) (of_ : Int) (S : PS) : SimP C S.pos (· + C.Q.length) (ownK C.ts at_ of_ S) (ownK C.us (at_ + C.a) of_ (sh C S)) := by
  have hn := ownK_end (ts := C.ts) at_ of_ S
  refine ⟨endpos_ge (fun a S' h => Nat.le_of_lt (hn.1 _ _ h)) (fun e h => hn.2 _ h), fun hE => ?_⟩
  have hA : AtI C S.pos := at_here hE (fun x S1 h => hn.1 _ _ h) (fun e h => hn.2 _ h)
  unfold ownK at hE ⊢
  simp only [is_sh hA, wrong_sh hA, on_sh]
  split at hE
  · rename_i h; rw [if_pos h, if_pos h]
    refine (sim_bind (text_sim C (on S)) (fun s S2 h2 => ?_) (fun s S2 h2 => by rw [text_fair h2]; simp [on])).2 hE
    refine sim_then (mark_sim C [93] S2) (fun S3 h3 => ?_) (fun S3 h3 => by rw [mark_fair h3]; simp [on])
    exact put_sim C at_ S3.pos ⟨14, s, of_, []⟩ S3 (Nat.le_refl _)
  rename_i c1; rw [if_neg c1, if_neg c1]
  split at hE
  · rename_i h; rw [if_pos h, if_pos h]; exact (sim_ownN C at_ of_ (on S)).2 hE
  · rename_i h; rw [if_neg h, if_neg h]; exact .inl rfl
theorem sim_owned (C : Cx) (S : PS) : SimP C S.pos (· + C.Q.length) (ownedP C.ts S) (ownedP C.us (sh C S)) := by
  refine ⟨endpos_ge (fun a S' h => Nat.le_of_lt (owned_takes _ _ _ h)) (fun e h => owned_err _ _ h), fun hE => ?_⟩
  have hA : AtI C S.pos := at_here hE (fun x S1 h => owned_takes _ _ _ h) (fun e h => owned_err _ _ h)
  unfold ownedP at hE ⊢
  rw [(pk_sh hA).1, (pk_sh hA).2.1, wrong_sh hA, on_sh]
  split at hE
  · rename_i h; rw [if_pos h, if_pos h]; exact .inl rfl
  · rename_i h; rw [if_neg h, if_neg h]; exact (sim_ownK C S.pos _ (on S)).2 hE
/-! ### A set. -/
def EndI {α : Type} (C : Cx) (r : PR α) : Prop := ∀ j, j ≤ endpos r → AtI C j
theorem sim_setLoop (C : Cx) : ∀ (k : Nat) (kids : List Nat) (S : PS), S.pos ≤ endpos (setLoop C.ts k kids S) ∧ (EndI C (setLoop C.ts k kids S) → RR C (List.map (· + C.Q.length)) (setLoop C.ts k kids S) (setLoop C.us k (kids.map (· + C.Q.length)) (sh C S)))
  | 0, kids, S => ⟨Nat.le_refl _, fun _ => ⟨rfl, rfl⟩⟩
  | k + 1, kids, S => by
    have hmo : S.pos ≤ endpos (setLoop C.ts (k + 1) kids S) := endpos_ge (fun a S' h => (setLoop_fair _ _ _ _ _ h).pos) (fun e h => setLoop_err _ _ _ _ h)
    refine ⟨hmo, fun hE => ?_⟩
    have hA : AtI C S.pos := hE _ hmo
    have hlen : (kids.map (· + C.Q.length)).length = kids.length := List.length_map _
    simp only [setLoop] at hE hmo ⊢
    rw [is_sh hA, hlen]
    split at hE
    · rename_i h; rw [if_pos h, if_pos h]; exact ⟨rfl, rfl⟩
    rename_i c0; rw [if_neg c0] at hmo
    rw [if_neg c0, if_neg c0]
    have body : ∀ S1 : PS, EndI C (if (pk C.ts S1).kind ≠ 1 ∧ (pk C.ts S1).kind ≠ 2 then (.error (wrongP C.ts S1) : PR (List Nat)) else if kids.length = 64 then .error (124, S1.pos)
        else if (pk C.ts S1).kind = 1 then setLoop C.ts k (kids ++ [S1.parts.length]) (putS S1.pos ⟨11, (pk C.ts S1).text, 0, []⟩ (on S1))
        else setLoop C.ts k (kids ++ [S1.parts.length]) (putS S1.pos ⟨12, [], (pk C.ts S1).num, []⟩ (on S1))) →
        RR C (List.map (· + C.Q.length)) (if (pk C.ts S1).kind ≠ 1 ∧ (pk C.ts S1).kind ≠ 2 then (.error (wrongP C.ts S1) : PR (List Nat)) else if kids.length = 64 then .error (124, S1.pos)
        else if (pk C.ts S1).kind = 1 then setLoop C.ts k (kids ++ [S1.parts.length]) (putS S1.pos ⟨11, (pk C.ts S1).text, 0, []⟩ (on S1))
        else setLoop C.ts k (kids ++ [S1.parts.length]) (putS S1.pos ⟨12, [], (pk C.ts S1).num, []⟩ (on S1)))
        (if (pk C.us (sh C S1)).kind ≠ 1 ∧ (pk C.us (sh C S1)).kind ≠ 2 then (.error (wrongP C.us (sh C S1)) : PR (List Nat)) else if kids.length = 64 then .error (124, (sh C S1).pos)
        else if (pk C.us (sh C S1)).kind = 1 then setLoop C.us k (kids.map (· + C.Q.length) ++ [(sh C S1).parts.length]) (putS (sh C S1).pos ⟨11, (pk C.us (sh C S1)).text, 0, []⟩ (on (sh C S1)))
        else setLoop C.us k (kids.map (· + C.Q.length) ++ [(sh C S1).parts.length]) (putS (sh C S1).pos ⟨12, [], (pk C.us (sh C S1)).num, []⟩ (on (sh C S1)))) := by
      intro S1 hE
      have hm1 : S1.pos ≤ endpos (if (pk C.ts S1).kind ≠ 1 ∧ (pk C.ts S1).kind ≠ 2 then (.error (wrongP C.ts S1) : PR (List Nat)) else if kids.length = 64 then .error (124, S1.pos)
          else if (pk C.ts S1).kind = 1 then setLoop C.ts k (kids ++ [S1.parts.length]) (putS S1.pos ⟨11, (pk C.ts S1).text, 0, []⟩ (on S1))
          else setLoop C.ts k (kids ++ [S1.parts.length]) (putS S1.pos ⟨12, [], (pk C.ts S1).num, []⟩ (on S1))) := by
        split
        · simp only [endpos]; rw [wrong_at]; exact Nat.le_refl _
        split
        · exact Nat.le_refl _
        split
        · have := (sim_setLoop C k (kids ++ [S1.parts.length]) (putS S1.pos ⟨11, (pk C.ts S1).text, 0, []⟩ (on S1))).1
          simp only [putS, on] at this ⊢; omega
        · have := (sim_setLoop C k (kids ++ [S1.parts.length]) (putS S1.pos ⟨12, [], (pk C.ts S1).num, []⟩ (on S1))).1
          simp only [putS, on] at this ⊢; omega
      have hA1 : AtI C S1.pos := hE _ hm1
      rw [(pk_sh hA1).1, (pk_sh hA1).2.1, (pk_sh hA1).2.2, wrong_sh hA1]
      have hput : ∀ p : PD, p.kids = [] → putS (sh C S1).pos p (on (sh C S1)) = sh C (putS S1.pos p (on S1)) := by
        intro p hp
        obtain ⟨k0, x0, n0, ks0⟩ := p
        simp only at hp
        subst hp
        simp [putS, on, sh, shP]; omega
      have hkids : kids.map (· + C.Q.length) ++ [(sh C S1).parts.length] = (kids ++ [S1.parts.length]).map (· + C.Q.length) := by simp [sh]; omega
      split at hE
      · rename_i h; rw [if_pos h, if_pos h]; exact .inl rfl
      rename_i c1; rw [if_neg c1, if_neg c1]
      split at hE
      · rename_i h; rw [if_pos h, if_pos h]; exact .inl rfl
      rename_i c2; rw [if_neg c2, if_neg c2]
      split at hE
      · rename_i h; rw [if_pos h, if_pos h, hput _ rfl, hkids]; exact (sim_setLoop C k _ _).2 hE
      · rename_i h; rw [if_neg h, if_neg h, hput _ rfl, hkids]; exact (sim_setLoop C k _ _).2 hE
    by_cases h0 : 0 < kids.length
    · rw [if_pos h0] at hE ⊢
      rw [if_pos h0]
      unfold markP at hE ⊢
      rw [is_sh hA, wrong_sh hA]
      split at hE
      · rename_i h
        rw [if_pos h, if_pos h, on_sh]
        simp only [thenS] at hE ⊢
        exact body (on S) hE
      · rename_i h; rw [if_neg h, if_neg h]; exact .inl rfl
    · rw [if_neg h0] at hE ⊢
      rw [if_neg h0]
      simp only [thenS] at hE ⊢
      exact body S hE
theorem sim_set (C : Cx) (S : PS) : SimP C S.pos (· + C.Q.length) (setP C.ts S) (setP C.us (sh C S)) := by
  unfold setP
  refine sim_then (mark_sim C [123] S) (fun S1 h1 => ?_) (fun S1 h1 => by rw [mark_fair h1]; simp [on])
  have hl := sim_setLoop C 5000 [] S1
  cases hx : setLoop C.ts 5000 [] S1 with
  | error e =>
    rw [hx] at hl
    refine ⟨hl.1, fun hE => ?_⟩
    have h2 := hl.2 (fun j hj => hE j hj)
    simp only [List.map_nil] at h2
    cases hy : setLoop C.us 5000 [] (sh C S1) with
    | error e' => rw [hy] at h2; exact h2
    | ok q => rw [hy] at h2; exact h2.elim
  | ok q =>
    obtain ⟨ks, S2⟩ := q
    rw [hx] at hl
    refine ⟨by have := hl.1; simp only [endpos, bindS, putP, putS, on] at this ⊢; omega, fun hE => ?_⟩
    have h2 := hl.2 (fun j hj => hE.1 j (by simp only [endpos] at hj; simp only [putS, on]; omega))
    simp only [List.map_nil] at h2
    cases hy : setLoop C.us 5000 [] (sh C S1) with
    | error e' => rw [hy] at h2; exact rr_nest h2 _
    | ok q' =>
      obtain ⟨y, T⟩ := q'
      rw [hy] at h2
      obtain ⟨rfl, rfl⟩ := h2
      simp only [bindS, on_sh]
      exact (put_sim C S.pos (on S2).pos ⟨13, [], 0, ks⟩ (on S2) (Nat.le_refl _)).2 hE
/-! ### Terms, atoms, units. -/
theorem int_end {ts : List Tk} {lo : Lv} (hl : LvFair lo) (he : LvErr lo) (S : PS) : (∀ a S', (thenS (openP ts [40] (on S)) fun S1 => bindS (lo.term S1) fun kid S2 => thenS (shutP ts S2) fun S3 => putP S.pos ⟨19, [], 0, [kid]⟩ S3) = .ok (a, S') → S.pos + 1 < S'.pos) ∧
    (∀ e, (thenS (openP ts [40] (on S)) fun S1 => bindS (lo.term S1) fun kid S2 => thenS (shutP ts S2) fun S3 => putP S.pos ⟨19, [], 0, [kid]⟩ S3) = .error e → S.pos + 1 ≤ e.2) := by
  constructor
  · intro a S' h
    obtain ⟨S1, h1, h⟩ := then_ok h
    obtain ⟨kid, S2, h2, h⟩ := bind_ok h
    obtain ⟨S3, h3, h⟩ := then_ok h
    obtain ⟨rfl, rfl⟩ := put_ok h
    obtain ⟨rfl, hn⟩ := open_fair h1
    have := (hl.term _ _ _ h2).pos
    rw [shut_fair h3]
    simp only [X.on] at this
    simp [putS, closeN, X.on]; omega
  · intro e h
    rcases then_err h with h | ⟨S1, h1, h⟩
    · have := open_err h; simp only [X.on] at this; omega
    obtain ⟨rfl, hn⟩ := open_fair h1
    rcases bind_err h with h | ⟨kid, S2, h2, h⟩
    · have := he.term _ _ h; simp only [X.on] at this; omega
    have a := (hl.term _ _ _ h2).pos
    simp only [X.on] at a
    rcases then_err h with h | ⟨S3, h3, h⟩
    · have := shut_err h; omega
    · exact (put_err h).elim
theorem sim_term {C : Cx} {lo lo' : Lv} {n : Nat} (h : Two C n lo lo') (S : PS) (hS : S.nest = n) : SimP C S.pos (· + C.Q.length) (termP C.ts lo S) (termP C.us lo' (sh C S)) := by
  refine ⟨endpos_ge (fun a S' hh => Nat.le_of_lt (term_takes h.fair _ _ _ hh)) (fun e hh => term_err h.fair h.err _ _ hh), fun hE => ?_⟩
  have hA : AtI C S.pos := at_here hE (fun x S1 hh => term_takes h.fair _ _ _ hh) (fun e hh => term_err h.fair h.err _ _ hh)
  unfold termP at hE ⊢
  simp only [(pk_sh hA).1, (pk_sh hA).2.1, (pk_sh hA).2.2, is_sh hA] at hE ⊢
  split at hE
  · rename_i c; rw [if_pos c, if_pos c, on_sh]; exact (put_sim C S.pos _ ⟨11, (pk C.ts S).text, 0, []⟩ (on S) (Nat.le_refl _)).2 hE
  rename_i c1; rw [if_neg c1, if_neg c1]
  split at hE
  · rename_i c; rw [if_pos c, if_pos c, on_sh]; exact (put_sim C S.pos _ ⟨12, [], (pk C.ts S).num, []⟩ (on S) (Nat.le_refl _)).2 hE
  rename_i c2; rw [if_neg c2, if_neg c2]
  split at hE
  · rename_i c; rw [if_pos c, if_pos c]; exact (sim_set C S).2 hE
  rename_i c3; rw [if_neg c3, if_neg c3]
  split at hE
  · rename_i c; rw [if_pos c, if_pos c, on_sh]
    have he := int_end (ts := C.ts) h.fair h.err S
    refine (sim_open (p := S.pos) (u := (· + C.Q.length)) (f' := fun S1 => bindS (lo'.term S1) fun kid S2 => thenS (shutP C.us S2) fun S3 => putP (S.pos + C.a) ⟨19, [], 0, [kid]⟩ S3) (by simp only [on]; have := h.le; omega) (endpos_ge (fun a S' hh => by have := he.1 a S' hh; omega) (fun e hh => by have := he.2 e hh; omega)) (fun hE => at_here hE (fun a S' hh => by have := he.1 a S' hh; simpa [on] using this) (fun e hh => by have := he.2 e hh; simpa [on] using this)) (fun hT S1 h1 => ?_) (by simp [on])).2 hE
    have hsim := h.sim (by simpa [on, hS] using hT)
    have f1 := (open_fair h1).1
    have n1 : S1.nest = n + 1 := by rw [f1]; simp [on, hS]
    refine sim_bind (hsim.term S1 n1) (fun kid S2 h2 => ?_) (fun kid S2 h2 => (h.fair.term _ _ _ h2).pos)
    have f2 := h.fair.term _ _ _ h2
    refine sim_then (shut_sim C S2 (by rw [f2.nest, n1]; omega)) (fun S3 h3 => ?_) (fun S3 h3 => by rw [shut_fair h3]; simp [closeN, on])
    exact put_sim C S.pos S3.pos ⟨19, [], 0, [kid]⟩ S3 (Nat.le_refl _)
  rename_i c4; rw [if_neg c4, if_neg c4]
  split at hE
  · rename_i c; rw [if_pos c, if_pos c]; exact (sim_scoped h 20 S hS).2 hE
  · rename_i c; rw [if_neg c, if_neg c]; exact (sim_owned C S).2 hE
theorem sim_cmp {C : Cx} {lo lo' : Lv} {n : Nat} (h : Two C n lo lo') (S : PS) (hS : S.nest = n) : SimP C S.pos (· + C.Q.length) (cmpP C.ts lo S) (cmpP C.us lo' (sh C S)) := by
  unfold cmpP
  refine sim_bind (sim_term h S hS) (fun l S1 h1 => ?_) (fun l S1 h1 => (term_fair h.fair _ _ _ h1).pos)
  have f1 := term_fair h.fair _ _ _ h1
  refine sim_bind (relation_sim C S1) (fun kn S2 h2 => ?_) (fun kn S2 h2 => by rw [relation_fair h2]; simp [on])
  have f2 := relation_fair h2
  refine sim_bind (sim_term h S2 (by rw [f2]; simp only [on]; rw [f1.nest, hS])) (fun r S3 h3 => ?_) (fun r S3 h3 => (term_fair h.fair _ _ _ h3).pos)
  exact put_sim C S1.pos S3.pos ⟨kn.1, [], kn.2, [l, r]⟩ S3 (Nat.le_refl _)
theorem sim_atom {C : Cx} {lo lo' : Lv} {n : Nat} (h : Two C n lo lo') (S : PS) (hS : S.nest = n) : SimP C S.pos (· + C.Q.length) (atomP C.ts lo S) (atomP C.us lo' (sh C S)) := by
  refine ⟨endpos_ge (fun a S' hh => Nat.le_of_lt (atom_takes h.fair _ _ _ hh)) (fun e hh => atom_err h.fair h.err _ _ hh), fun hE => ?_⟩
  have hA : AtI C S.pos := at_here hE (fun x S1 hh => atom_takes h.fair _ _ _ hh) (fun e hh => atom_err h.fair h.err _ _ hh)
  unfold atomP at hE ⊢
  simp only [(pk_sh hA).1, (pk_sh hA).2.1] at hE ⊢
  split at hE
  · rename_i c0; rw [if_pos c0, if_pos c0]
    split at hE
    · rename_i c; rw [if_pos c, if_pos c, on_sh]; exact (put_sim C S.pos _ ⟨1, [], 0, []⟩ (on S) (Nat.le_refl _)).2 hE
    rename_i c1; rw [if_neg c1, if_neg c1]
    split at hE
    · rename_i c; rw [if_pos c, if_pos c, on_sh]; exact (put_sim C S.pos _ ⟨2, [], 0, []⟩ (on S) (Nat.le_refl _)).2 hE
    rename_i c2; rw [if_neg c2, if_neg c2]
    split at hE
    · rename_i c; rw [if_pos c, if_pos c]; exact (sim_scoped h 8 S hS).2 hE
    rename_i c3; rw [if_neg c3, if_neg c3]
    split at hE
    · rename_i c; rw [if_pos c, if_pos c]; exact (sim_scoped h 9 S hS).2 hE
    rename_i c4; rw [if_neg c4, if_neg c4]
    split at hE
    · rename_i c; rw [if_pos c, if_pos c, on_sh]
      refine (sim_then (mark_sim C [40] (on S)) (fun S1 h1 => ?_) (fun S1 h1 => by rw [mark_fair h1]; simp [on])).2 hE
      refine sim_bind (text_sim C S1) (fun s S2 h2 => ?_) (fun s S2 h2 => by rw [text_fair h2]; simp [on])
      refine sim_then (mark_sim C [41] S2) (fun S3 h3 => ?_) (fun S3 h3 => by rw [mark_fair h3]; simp [on])
      exact put_sim C S.pos S3.pos ⟨10, s, 0, []⟩ S3 (Nat.le_refl _)
    · rename_i c; rw [if_neg c, if_neg c]; exact (sim_cmp h S hS).2 hE
  · rename_i c0; rw [if_neg c0, if_neg c0]; exact (sim_cmp h S hS).2 hE
theorem sim_unit {C : Cx} {lo lo' : Lv} {n : Nat} (h : Two C n lo lo') (S : PS) (hS : S.nest = n) : SimP C S.pos (· + C.Q.length) (unitP C.ts lo S) (unitP C.us lo' (sh C S)) := by
  refine ⟨endpos_ge (fun a S' hh => Nat.le_of_lt (unit_takes h.fair _ _ _ hh)) (fun e hh => unit_err h.fair h.err _ _ hh), fun hE => ?_⟩
  have ht := unit_takes (ts := C.ts) h.fair S
  have hr := unit_err (ts := C.ts) h.fair h.err S
  have hA : AtI C S.pos := at_here hE (fun x S1 hh => ht _ _ hh) (fun e hh => hr _ hh)
  unfold unitP at hE ht hr ⊢
  simp only [is_sh hA] at hE ⊢
  split at hE
  · rename_i c; rw [if_pos c] at ht hr; rw [if_pos c, if_pos c]
    refine (sim_open (p := S.pos) (u := (· + C.Q.length)) (f' := fun S1 => bindS (lo'.unit S1) fun kid S2 => putP (S.pos + C.a) ⟨3, [], 0, [kid]⟩ (closeN S2)) (by have := h.le; omega) (endpos_ge (fun a S' hh => Nat.le_of_lt (ht _ _ hh)) (fun e hh => hr _ hh)) (fun hE => at_here hE (fun a S' hh => ht _ _ hh) (fun e hh => hr _ hh)) (fun hT S1 h1 => ?_) (Nat.le_refl _)).2 hE
    have hsim := h.sim (by simpa [hS] using hT)
    have f1 := (open_fair h1).1
    have n1 : S1.nest = n + 1 := by rw [f1]; simp [hS]
    refine sim_bind (hsim.unit S1 n1) (fun kid S2 h2 => ?_) (fun kid S2 h2 => (h.fair.unit _ _ _ h2).pos)
    have f2 := h.fair.unit _ _ _ h2
    have hc : closeN (sh C S2) = sh C (closeN S2) := by simp [closeN, sh]; rw [f2.nest, n1]; omega
    rw [hc]
    exact put_sim C S.pos S2.pos ⟨3, [], 0, [kid]⟩ (closeN S2) (Nat.le_refl _)
  rename_i c1; rw [if_neg c1] at ht hr; rw [if_neg c1, if_neg c1]
  split at hE
  · rename_i c; rw [if_pos c] at ht hr; rw [if_pos c, if_pos c]
    refine (sim_open (p := S.pos) (u := (· + C.Q.length)) (f' := fun S1 => bindS (lo'.expr S1) fun kid S2 => thenS (shutP C.us S2) fun S3 => .ok (kid, S3)) (by have := h.le; omega) (endpos_ge (fun a S' hh => Nat.le_of_lt (ht _ _ hh)) (fun e hh => hr _ hh)) (fun hE => at_here hE (fun a S' hh => ht _ _ hh) (fun e hh => hr _ hh)) (fun hT S1 h1 => ?_) (Nat.le_refl _)).2 hE
    have hsim := h.sim (by simpa [hS] using hT)
    have f1 := (open_fair h1).1
    have n1 : S1.nest = n + 1 := by rw [f1]; simp [hS]
    refine sim_bind (hsim.expr S1 n1) (fun kid S2 h2 => ?_) (fun kid S2 h2 => (h.fair.expr _ _ _ h2).pos)
    have f2 := h.fair.expr _ _ _ h2
    refine sim_then (shut_sim C S2 (by rw [f2.nest, n1]; omega)) (fun S3 h3 => ?_) (fun S3 h3 => by rw [shut_fair h3]; simp [closeN, on])
    exact ⟨Nat.le_refl _, fun _ => ⟨rfl, rfl⟩⟩
  · rename_i c; rw [if_neg c, if_neg c]; exact (sim_atom h S hS).2 hE
theorem sim_conj {C : Cx} {lo lo' : Lv} {n : Nat} (h : Two C n lo lo') (S : PS) (hS : S.nest = n) : SimP C S.pos (· + C.Q.length) (conjP C.ts lo S) (conjP C.us lo' (sh C S)) :=
  sim_list (.inl rfl) (fun S hS => sim_unit h S hS) (unit_fair h.fair) (unit_err h.fair h.err) S hS
theorem sim_expr {C : Cx} {lo lo' : Lv} {n : Nat} (h : Two C n lo lo') (S : PS) (hS : S.nest = n) : SimP C S.pos (· + C.Q.length) (exprP C.ts lo S) (exprP C.us lo' (sh C S)) :=
  sim_list (.inr rfl) (fun S hS => sim_conj h S hS) (conj_fair h.fair) (conj_err h.fair h.err) S hS
theorem sim_lv {C : Cx} {n : Nat} {lo lo' : Lv} (h : Two C n lo lo') : LvSim C n ⟨exprP C.ts lo, unitP C.ts lo, termP C.ts lo⟩ ⟨exprP C.us lo', unitP C.us lo', termP C.us lo'⟩ :=
  ⟨fun S hS => sim_expr h S hS, fun S hS => sim_unit h S hS, fun S hS => sim_term h S hS⟩
/-- Level by level: the second stands c deeper. -/
theorem lv_sim (C : Cx) : ∀ (d n : Nat), n + C.c + d = 32 → LvSim C n (lv C.ts (d + C.c)) (lv C.us d)
  | 0, n, hn => by
    have h2 : ∀ lo : Lv, LvFair lo → LvErr lo → Two C n lo noLv := fun lo hf he => ⟨by omega, hf, he, fun hc => absurd (by omega) hc⟩
    cases hc : C.c with
    | zero => exact sim_lv (h2 noLv noLv_fair noLv_err)
    | succ c => rw [show (0 : Nat) + (c + 1) = c + 1 by omega]; exact sim_lv (h2 (lv C.ts c) (lv_fair C.ts c) (lv_err C.ts c))
  | d + 1, n, hn => by
    rw [show d + 1 + C.c = (d + C.c) + 1 by omega]
    exact sim_lv ⟨by omega, lv_fair C.ts _, lv_err C.ts _, fun _ => lv_sim C d (n + 1) (by omega)⟩

end Go.Proofs.YtghhnnbbjlipcaaDoor.X
