/-
  Plain law: every part that the descent makes fits, and no part lies deeper than may be: the words.
  Plain law: every part that the descent makes fits, and no part lies deeper than may be: the descent.
  Plain law: what parse makes is a valid tree.
-/
import Derived.Test.YtghhnnbbjlipcaaGreatDoorRtAll
import Derived.Test.YtghhnnbbjlipcaaGreatDoorParM
import Derived.Test.YtghhnnbbjlipcaaGreatDoorPlAll
import Derived.Test.YtghhnnbbjlipcaaGreatDoorTopIn
import Derived.Test.YtghhnnbbjlipcaaGreatDoorLexEnd
set_option linter.unusedVariables false
set_option linter.unusedSimpArgs false
namespace Go.Proofs.YtghhnnbbjlipcaaGreatDoor.X
/-- How much stands below a part, the parts ahead of it and how much stands below them being known. -/
def hOf (ps : List PD) (hs : List Nat) (p : PD) : Nat := p.kids.foldl (fun m k => max m (rnd p.kind + (if brB p.kind (at_ ps k).kind then 1 else 0) + hs.getD k 0)) 0
def htsGo : List PD → List Nat → List PD → List Nat
  | _, hs, [] => hs
  | pre, hs, p :: r => htsGo (pre ++ [p]) (hs ++ [hOf pre hs p]) r
def hts (ps : List PD) : List Nat := htsGo [] [] ps
def H (ps : List PD) (a : Nat) : Nat := (hts ps).getD a 0
theorem htsGo_append : ∀ (a b pre : List PD) (hs : List Nat), htsGo pre hs (a ++ b) = htsGo (pre ++ a) (htsGo pre hs a) b
  | [], b, pre, hs => by simp [htsGo]
  | p :: a, b, pre, hs => by simp only [List.cons_append, htsGo]; rw [htsGo_append a b]; simp
theorem htsGo_len : ∀ (a pre : List PD) (hs : List Nat), (htsGo pre hs a).length = hs.length + a.length
  | [], pre, hs => rfl
  | p :: a, pre, hs => by simp only [htsGo]; rw [htsGo_len a]; simp; omega
theorem hts_len (ps : List PD) : (hts ps).length = ps.length := by unfold hts; rw [htsGo_len]; simp
theorem htsGo_pre : ∀ (a pre : List PD) (hs : List Nat), ∃ r, htsGo pre hs a = hs ++ r
  | [], pre, hs => ⟨[], by simp [htsGo]⟩
  | p :: a, pre, hs => by
    obtain ⟨r, hr⟩ := htsGo_pre a (pre ++ [p]) (hs ++ [hOf pre hs p])
    exact ⟨[hOf pre hs p] ++ r, by simp only [htsGo]; rw [hr]; simp⟩
theorem hts_append (ps qs : List PD) : ∃ r, hts (ps ++ qs) = hts ps ++ r := by
  unfold hts
  rw [htsGo_append]
  exact htsGo_pre _ _ _
theorem H_app {ps qs : List PD} {a : Nat} (h : a < ps.length) : H (ps ++ qs) a = H ps a := by
  obtain ⟨r, hr⟩ := hts_append ps qs
  unfold H
  rw [hr, List.getD_eq_getElem?_getD, List.getD_eq_getElem?_getD, List.getElem?_append_left (by rw [hts_len]; exact h)]
theorem H_last (ps : List PD) (p : PD) : H (ps ++ [p]) ps.length = hOf ps (hts ps) p := by
  unfold H
  have e : hts (ps ++ [p]) = hts ps ++ [hOf ps (hts ps) p] := by unfold hts; rw [htsGo_append]; simp [htsGo]
  rw [e, List.getD_eq_getElem?_getD, List.getElem?_append_right (by rw [hts_len]; exact Nat.le_refl _), hts_len]
  simp
theorem fold_max_le {f : Nat → Nat} : ∀ (ks : List Nat) (m n : Nat), m ≤ n → (∀ k ∈ ks, f k ≤ n) → ks.foldl (fun m k => max m (f k)) m ≤ n
  | [], m, n, h, hk => h
  | k :: ks, m, n, h, hk => by
    simp only [List.foldl_cons]
    refine fold_max_le ks _ n ?_ (fun y hy => hk y (List.mem_cons_of_mem _ hy))
    have := hk k List.mem_cons_self
    omega
theorem fold_max_ge {f : Nat → Nat} : ∀ (ks : List Nat) (m : Nat), m ≤ ks.foldl (fun m k => max m (f k)) m ∧ ∀ k ∈ ks, f k ≤ ks.foldl (fun m k => max m (f k)) m
  | [], m => ⟨Nat.le_refl _, fun k hk => by cases hk⟩
  | k :: ks, m => by
    simp only [List.foldl_cons]
    obtain ⟨h1, h2⟩ := fold_max_ge (f := f) ks (max m (f k))
    refine ⟨by omega, fun y hy => ?_⟩
    rcases List.mem_cons.1 hy with rfl | hy
    · omega
    · exact h2 y hy
theorem at_app {ps qs : List PD} {a : Nat} (h : a < ps.length) : at_ (ps ++ qs) a = at_ ps a := by
  simp only [at_, List.getD_eq_getElem?_getD]
  rw [List.getElem?_append_left h]
theorem at_last (ps : List PD) (p : PD) : at_ (ps ++ [p]) ps.length = p := by
  simp [at_, List.getD_eq_getElem?_getD]
/-- Part j fits, and its kids stand ahead of it. -/
def FitK (ps : List PD) (j : Nat) : Prop := Fit ps (at_ ps j) ∧ (∀ k ∈ (at_ ps j).kids, k < j) ∧ H ps j ≤ 32
def Good (ps : List PD) : Prop := ∀ j, j < ps.length → FitK ps j
theorem Fit.congr {ps qs : List PD} {p : PD} (h : Fit ps p) (hk : ∀ k ∈ p.kids, at_ qs k = at_ ps k) : Fit qs p :=
  ⟨h.kind, h.text, h.notext, h.cmp, h.isin, h.num, h.side, h.nonum, h.one, h.more, h.two, h.set_, h.none_,
    fun e k hk' => by rw [hk k hk']; exact h.conds e k hk', fun e k hk' => by rw [hk k hk']; exact h.leafs e k hk', fun e k hk' => by rw [hk k hk']; exact h.terms e k hk'⟩
theorem FitK.app {ps qs : List PD} {j : Nat} (h : FitK ps j) (hj : j < ps.length) : FitK (ps ++ qs) j := by
  obtain ⟨h1, h2, h3⟩ := h
  unfold FitK
  rw [at_app hj, H_app hj]
  exact ⟨h1.congr (fun k hk => at_app (by have := h2 k hk; omega)), h2, h3⟩
theorem Good.snoc {ps : List PD} {p : PD} (h : Good ps) (hf : Fit ps p) (hk : ∀ k ∈ p.kids, k < ps.length) (h32 : hOf ps (hts ps) p ≤ 32) : Good (ps ++ [p]) := by
  intro j hj
  rw [List.length_append, List.length_singleton] at hj
  by_cases e : j < ps.length
  · exact (h j e).app e
  · obtain rfl : j = ps.length := by omega
    unfold FitK
    rw [at_last, H_last]
    exact ⟨hf.congr (fun k hk' => at_app (hk k hk')), hk, h32⟩
/-- A part has come: of this class; no more stands below it than may be. -/
structure Gv (S S' : PS) (a : Nat) (cls : Int → Prop) (br : Int → Nat) : Prop where
  good : Good S'.parts
  ext : ∃ new, S'.parts = S.parts ++ new
  lt : a < S'.parts.length
  cls : cls (at_ S'.parts a).kind
  dep : S.nest + H S'.parts a + br (at_ S'.parts a).kind ≤ 32
def Mk (f : PS → PR Nat) (cls : Int → Prop) (br : Int → Nat) : Prop := ∀ S a S', f S = .ok (a, S') → S.nest ≤ 32 → Good S.parts → Gv S S' a cls br
/-- A kid that has come. -/
structure Kid (n : Nat) (ps : List PD) (cls : Int → Prop) (br : Int → Nat) (k : Nat) : Prop where
  lt : k < ps.length
  cls : cls (at_ ps k).kind
  dep : n + H ps k + br (at_ ps k).kind ≤ 32
theorem Gv.kid {S S' : PS} {a : Nat} {cls : Int → Prop} {br : Int → Nat} (h : Gv S S' a cls br) : Kid S.nest S'.parts cls br a := ⟨h.lt, h.cls, h.dep⟩
theorem Kid.app {n : Nat} {ps qs : List PD} {cls : Int → Prop} {br : Int → Nat} {k : Nat} (h : Kid n ps cls br k) : Kid n (ps ++ qs) cls br k :=
  ⟨by have := h.lt; simp; omega, by rw [at_app h.lt]; exact h.cls, by rw [at_app h.lt, H_app h.lt]; exact h.dep⟩
theorem Kid.weak {n n' : Nat} {ps : List PD} {cls cls' : Int → Prop} {br br' : Int → Nat} {k : Nat} (h : Kid n ps cls br k) (hc : ∀ x, cls x → cls' x) (hb : ∀ x, cls x → n' + br' x ≤ n + br x) : Kid n' ps cls' br' k :=
  ⟨h.lt, hc _ h.cls, by have := h.dep; have := hb _ h.cls; omega⟩
/-- A part put. -/
theorem Gv.put {A B : PS} {cls : Int → Prop} {br : Int → Nat} {p : PD} {at0 : Nat} (hg : Good B.parts) (hx : ∃ new, B.parts = A.parts ++ new) (hn : A.nest ≤ 32) (hf : Fit B.parts p)
    (hk : ∀ k ∈ p.kids, k < B.parts.length ∧ A.nest + rnd p.kind + (if brB p.kind (at_ B.parts k).kind then 1 else 0) + H B.parts k ≤ 32) (hc : cls p.kind) (hb : br p.kind = 0) : Gv A (putS at0 p B) B.parts.length cls br := by
  obtain ⟨new, hx⟩ := hx
  have this : hOf B.parts (hts B.parts) p ≤ 32 - A.nest := fold_max_le _ _ _ (Nat.zero_le _) (fun k h => by
    have := (hk k h).2
    unfold H at this
    omega)
  refine ⟨hg.snoc hf (fun k h => (hk k h).1) (by omega), ⟨new ++ [p], by simp [putS, hx]⟩, by simp [putS], ?_, ?_⟩
  · simp only [putS]; rw [at_last]; exact hc
  · simp only [putS]
    rw [at_last, hb, H_last]
    omega
theorem Gv.to {A B C : PS} {a : Nat} {cls : Int → Prop} {br : Int → Nat} (h : Gv A B a cls br) (h1 : C.parts = B.parts) : Gv A C a cls br := by
  obtain ⟨h2, h3, h4, h5, h6⟩ := h
  exact ⟨by rw [h1]; exact h2, by rw [h1]; exact h3, by rw [h1]; exact h4, by rw [h1]; exact h5, by rw [h1]; exact h6⟩
theorem Gv.weak {A A' B : PS} {a : Nat} {cls cls' : Int → Prop} {br br' : Int → Nat} (h : Gv A B a cls br) (h1 : A.parts = A'.parts) (hc : ∀ x, cls x → cls' x) (hb : ∀ x, cls x → A'.nest + br' x ≤ A.nest + br x) : Gv A' B a cls' br' := by
  obtain ⟨h2, h3, h4, h5, h6⟩ := h
  exact ⟨h2, by rw [← h1]; exact h3, h4, hc _ h5, by have := hb _ h5; omega⟩
/-- A part without kids fits. -/
theorem fit_leaf {ps : List PD} {k n : Int} {t : Bs} (ht : t.length ≤ 127)
    (h : (k = 1 ∨ k = 2 ∨ k = 15 ∨ k = 16 ∨ k = 17) ∧ t = [] ∨ k = 10 ∨ k = 11 ∨ k = 12 ∧ t = [] ∨ k = 14 ∨ k = 18)
    (hn : (k = 12 → -999999999999999999 ≤ n ∧ n ≤ 999999999999999999) ∧ (14 ≤ k ∧ k ≤ 18 → 1 ≤ n ∧ n ≤ 3) ∧ (k = 1 ∨ k = 2 ∨ k = 10 ∨ k = 11 → n = 0)) : Fit ps ⟨k, t, n, []⟩ := by
  obtain ⟨n1, n2, n3⟩ := hn
  refine ⟨?_, ht, ?_, ?_, ?_, n1, n2, ?_, ?_, ?_, ?_, ?_, ?_, ?_, ?_, ?_⟩ <;> simp only [List.length_nil, List.not_mem_nil, false_imp_iff, implies_true, forall_const] <;> first | omega | skip
  · intro e; rcases h with ⟨_, h⟩ | h | h | ⟨_, h⟩ | h | h <;> first | exact h | (exfalso; omega)
/-- A part with kids fits. -/
theorem fit_one {ps : List PD} {k : Int} {t : Bs} {kid : Nat} (ht : t.length ≤ 127) (h : (k = 3 ∨ k = 19) ∧ t = [] ∨ k = 8 ∨ k = 9 ∨ k = 20) (hk : if k = 19 then termK (at_ ps kid).kind else condK (at_ ps kid).kind) : Fit ps ⟨k, t, 0, [kid]⟩ := by
  refine ⟨?_, ht, ?_, ?_, ?_, ?_, ?_, ?_, ?_, ?_, ?_, ?_, ?_, ?_, ?_, ?_⟩ <;> first | (simp only; omega) | (intro e; simp only at e; omega) | skip
  all_goals intro e
  all_goals first
    | rfl
    | (rcases h with ⟨_, h⟩ | h | h | h <;> first | exact h | (exfalso; simp only at e; omega))
    | (simp only at e; omega)
    | (exfalso; simp only at e; omega)
    | (intro x hx; obtain rfl : x = kid := by simpa using hx
       simp only at e; rw [if_neg (by omega)] at hk; exact hk)
    | (intro x hx; obtain rfl : x = kid := by simpa using hx
       simp only at e; rw [if_pos (by omega)] at hk; exact hk)
theorem fit_many {ps : List PD} {k : Int} {ks : List Nat} (h : k = 4 ∨ k = 5) (hl : 2 ≤ ks.length) (hk : ∀ x ∈ ks, condK (at_ ps x).kind) : Fit ps ⟨k, [], 0, ks⟩ := by
  refine ⟨?_, by simp, ?_, ?_, ?_, ?_, ?_, ?_, ?_, ?_, ?_, ?_, ?_, ?_, ?_, ?_⟩ <;> first | (simp only; omega) | (intro e; simp only at e; omega) | skip
  all_goals intro e
  all_goals first | rfl | exact hl | exact hk | (simp only at e; omega) | (exfalso; simp only at e; omega)
theorem fit_set {ps : List PD} {ks : List Nat} (hl : ks.length ≤ 64) (hk : ∀ x ∈ ks, (at_ ps x).kind = 11 ∨ (at_ ps x).kind = 12) : Fit ps ⟨13, [], 0, ks⟩ := by
  refine ⟨by simp only; omega, by simp, ?_, ?_, ?_, ?_, ?_, ?_, ?_, ?_, ?_, ?_, ?_, ?_, ?_, ?_⟩
  all_goals intro e
  all_goals first | rfl | exact hl | exact hk | (exfalso; simp at e; done)
theorem fit_two {ps : List PD} {k n : Int} {a b : Nat} (h : k = 6 ∧ 1 ≤ n ∧ n ≤ 6 ∨ k = 7 ∧ (n = 0 ∨ n = 1)) (ha : termK (at_ ps a).kind) (hb : termK (at_ ps b).kind) : Fit ps ⟨k, [], n, [a, b]⟩ := by
  refine ⟨?_, by simp, ?_, ?_, ?_, ?_, ?_, ?_, ?_, ?_, ?_, ?_, ?_, ?_, ?_, ?_⟩ <;> first | (simp only; omega) | (intro e; simp only at e; omega) | skip
  all_goals intro e
  all_goals first | rfl | (simp only [List.mem_cons, List.not_mem_nil, or_false]; rintro x (rfl | rfl) <;> assumption) | (simp only at e ⊢; omega) | (exfalso; simp only at e; omega)

end Go.Proofs.YtghhnnbbjlipcaaGreatDoor.X
set_option linter.unusedVariables false
set_option linter.unusedSimpArgs false
namespace Go.Proofs.YtghhnnbbjlipcaaGreatDoor.X
abbrev b45n (k : Int) : Nat := if k = 4 ∨ k = 5 then 1 else 0
abbrev b5n (k : Int) : Nat := if k = 5 then 1 else 0
abbrev b0n (k : Int) : Nat := 0
/-- A number has eighteen digits at most. -/
def Nums (ts : List Tk) : Prop := ∀ i, (ts.getD i endT).kind = 2 → -999999999999999999 ≤ (ts.getD i endT).num ∧ (ts.getD i endT).num ≤ 999999999999999999
structure LvV (lo : Lv) : Prop where
  expr : Mk lo.expr condK b0n
  unit : Mk lo.unit condK b45n
  term : Mk lo.term termK b0n
theorem Gv.leaf {A B : PS} {cls : Int → Prop} {br : Int → Nat} {p : PD} {at0 : Nat} (hg : Good A.parts) (hx : B.parts = A.parts) (hn : A.nest ≤ 32) (hf : Fit A.parts p) (hk : p.kids = []) (hc : cls p.kind) (hb : br p.kind = 0) : Gv A (putS at0 p B) B.parts.length cls br :=
  Gv.put (by rw [hx]; exact hg) ⟨[], by simp [hx]⟩ hn (by rw [hx]; exact hf) (fun k h => by rw [hk] at h; cases h) hc hb
theorem brB_not {a b : Int} (h : ¬ (a = 3 ∨ a = 4 ∨ a = 5)) : brB a b = false := by
  unfold brB
  rw [if_neg (by omega), if_neg (by omega)]
theorem scoped_v {ts : List Tk} (hs : Short ts) {lo : Lv} (hl : LvV lo) {kind : Int} (hk : kind = 8 ∨ kind = 9 ∨ kind = 20) {cls : Int → Prop} {br : Int → Nat} (hc : cls kind) (hb : br kind = 0) : Mk (scopedP ts lo kind) cls br := by
  intro S a S' h hn hg
  unfold scopedP at h
  obtain ⟨S1, h1, h⟩ := then_ok h
  obtain ⟨key, S2, h2, h⟩ := bind_ok h
  obtain ⟨S3, h3, h⟩ := then_ok h
  obtain ⟨kid, S4, h4, h⟩ := bind_ok h
  obtain ⟨S5, h5, h⟩ := then_ok h
  obtain ⟨rfl, rfl⟩ := put_ok h
  obtain ⟨rfl, hne⟩ := open_fair h1
  simp only [X.on] at hne
  obtain ⟨hks, rfl⟩ := text_short hs h2
  rw [mark_fair h3] at h4
  have hv := hl.expr _ _ _ h4 (by simp only [X.on]; omega) hg
  have hd := hv.dep
  simp only [X.on] at hd
  rw [shut_fair h5]
  refine Gv.put hv.good hv.ext hn (fit_one hks (.inr hk) (by rw [if_neg (by omega)]; exact hv.cls)) (fun k hk' => ?_) hc hb
  obtain rfl : k = kid := by simpa using hk'
  refine ⟨hv.lt, ?_⟩
  have hr : rnd kind = 1 := by unfold rnd; rw [if_pos (by omega)]
  have hbr : brB kind (at_ (closeN (X.on S4)).parts k).kind = false := brB_not (by omega)
  show S.nest + rnd kind + (if brB kind (at_ (closeN (X.on S4)).parts k).kind = true then 1 else 0) + H S4.parts k ≤ 32
  rw [hr, hbr]
  simp only [Bool.false_eq_true, if_false]
  omega
theorem side_le (t : Bs) : sideP t = 0 ∨ (1 ≤ sideP t ∧ sideP t ≤ 3) := by
  unfold sideP
  repeat' split
  all_goals omega
theorem owned_v {ts : List Tk} (hs : Short ts) : Mk (ownedP ts) termK b0n := by
  intro S a S' h hn hg
  unfold ownedP at h
  split at h
  · cases h
  · rename_i hk
    have hs0 : ¬ sideP (pk ts S).text = 0 := fun e => hk (.inr e)
    have hsd := side_le (pk ts S).text
    generalize sideP (pk ts S).text = sd at h hs0 hsd
    unfold ownK ownN at h
    split at h
    · obtain ⟨s, S2, h2, h⟩ := bind_ok h
      obtain ⟨S3, h3, h⟩ := then_ok h
      obtain ⟨rfl, rfl⟩ := put_ok h
      obtain ⟨hks, rfl⟩ := text_short hs h2
      rw [mark_fair h3]
      exact Gv.leaf hg rfl hn (fit_leaf hks (by omega) (by omega)) rfl (by unfold termK; simp) rfl
    split at h
    · split at h
      · obtain ⟨rfl, rfl⟩ := put_ok h
        exact Gv.leaf hg rfl hn (fit_leaf (by simp) (.inl ⟨by omega, rfl⟩) (by omega)) rfl (by unfold termK; simp) rfl
      split at h
      · obtain ⟨rfl, rfl⟩ := put_ok h
        exact Gv.leaf hg rfl hn (fit_leaf (by simp) (.inl ⟨by omega, rfl⟩) (by omega)) rfl (by unfold termK; simp) rfl
      split at h
      · obtain ⟨rfl, rfl⟩ := put_ok h
        exact Gv.leaf hg rfl hn (fit_leaf (by simp) (.inl ⟨by omega, rfl⟩) (by omega)) rfl (by unfold termK; simp) rfl
      split at h
      · obtain ⟨S3, h3, h⟩ := then_ok h
        obtain ⟨s, S4, h4, h⟩ := bind_ok h
        obtain ⟨S5, h5, h⟩ := then_ok h
        obtain ⟨rfl, rfl⟩ := put_ok h
        rw [mark_fair h3] at h4
        obtain ⟨hks, rfl⟩ := text_short hs h4
        rw [mark_fair h5]
        exact Gv.leaf hg rfl hn (fit_leaf hks (by omega) (by omega)) rfl (by unfold termK; simp) rfl
      · cases h
    · cases h
def litK (k : Int) : Prop := k = 11 ∨ k = 12
theorem setLoop_v {ts : List Tk} (hs : Short ts) (hm : Nums ts) : ∀ (n : Nat) (kids : List Nat) (S : PS) (ks : List Nat) (S' : PS), setLoop ts n kids S = .ok (ks, S') → S.nest ≤ 32 → Good S.parts → (∀ k ∈ kids, Kid S.nest S.parts litK b0n k) → kids.length ≤ 64 →
    Good S'.parts ∧ (∃ new, S'.parts = S.parts ++ new) ∧ (∀ k ∈ ks, Kid S.nest S'.parts litK b0n k) ∧ ks.length ≤ 64
  | 0, kids, S, ks, S', h, hn, hg, hk, h6 => by cases h; exact ⟨hg, ⟨[], by simp⟩, hk, h6⟩
  | n + 1, kids, S, ks, S', h, hn, hg, hk, h6 => by
    simp only [setLoop] at h
    split at h
    · cases h; exact ⟨hg, ⟨[], by simp⟩, hk, h6⟩
    · obtain ⟨S1, h1, h⟩ := then_ok h
      have e1 : S1.parts = S.parts ∧ S1.nest = S.nest := by
        split at h1
        · rw [mark_fair h1]; exact ⟨rfl, rfl⟩
        · injection h1 with h1; rw [← h1]; exact ⟨rfl, rfl⟩
      obtain ⟨ep, en⟩ := e1
      split at h
      · cases h
      rename_i hkd
      split at h
      · cases h
      rename_i h64
      have step : ∀ p : PD, Fit S.parts p → p.kids = [] → litK p.kind → setLoop ts n (kids ++ [S1.parts.length]) (putS S1.pos p (on S1)) = .ok (ks, S') →
          Good S'.parts ∧ (∃ new, S'.parts = S.parts ++ new) ∧ (∀ k ∈ ks, Kid S.nest S'.parts litK b0n k) ∧ ks.length ≤ 64 := by
        intro p hf hp hc h
        have hv : Gv S (putS S1.pos p (on S1)) (on S1).parts.length litK b0n := Gv.leaf hg (by simp [X.on, ep]) hn hf hp hc rfl
        obtain ⟨new, hx⟩ := hv.ext
        have hn1 : (putS S1.pos p (on S1)).nest = S.nest := by simp [putS, X.on, en]
        obtain ⟨r1, ⟨new2, r2⟩, r3, r4⟩ := setLoop_v hs hm n _ _ _ _ h (by rw [hn1]; exact hn) hv.good (fun k hk' => by
          rw [hn1]
          rcases List.mem_append.1 hk' with hk' | hk'
          · rw [hx]; exact (hk k hk').app
          · obtain rfl : k = S1.parts.length := by simpa using hk'
            exact hv.kid) (by simp; omega)
        rw [hn1] at r3
        exact ⟨r1, ⟨new ++ new2, by rw [r2, hx, List.append_assoc]⟩, r3, r4⟩
      split at h
      · rename_i h1k
        exact step _ (fit_leaf (hs _ h1k) (by omega) (by omega)) rfl (.inl rfl) h
      · rename_i h1k
        have h2k : (pk ts S1).kind = 2 := Classical.byContradiction fun e => hkd ⟨h1k, e⟩
        have := hm _ h2k
        exact step _ (fit_leaf (by simp) (.inr (.inr (.inr (.inl ⟨rfl, rfl⟩)))) ⟨fun _ => this, by omega, by omega⟩) rfl (.inr rfl) h
theorem set_v {ts : List Tk} (hs : Short ts) (hm : Nums ts) : Mk (setP ts) termK b0n := by
  intro S a S' h hn hg
  unfold setP at h
  obtain ⟨S1, h1, h⟩ := then_ok h
  obtain ⟨ks, S2, h2, h⟩ := bind_ok h
  obtain ⟨rfl, rfl⟩ := put_ok h
  rw [mark_fair h1] at h2
  obtain ⟨r1, r2, r3, r4⟩ := setLoop_v hs hm _ _ _ _ _ h2 hn hg (fun k hk => by cases hk) (by simp)
  refine Gv.put r1 r2 hn (fit_set r4 (fun k hk => (r3 k hk).cls)) (fun k hk => ⟨(r3 k hk).lt, ?_⟩) (by unfold termK; simp) rfl
  have := (r3 k hk).dep
  rw [brB_not (by simp)]
  simp only [X.on] at this
  simp [rnd, X.on]; omega
theorem term_v {ts : List Tk} (hs : Short ts) (hm : Nums ts) {lo : Lv} (hl : LvV lo) : Mk (termP ts lo) termK b0n := by
  intro S a S' h hn hg
  unfold termP at h
  simp only at h
  split at h
  · rename_i h1k
    obtain ⟨rfl, rfl⟩ := put_ok h
    exact Gv.leaf hg rfl hn (fit_leaf (hs _ h1k) (by omega) (by omega)) rfl (by unfold termK; simp) rfl
  split at h
  · rename_i h2k
    obtain ⟨rfl, rfl⟩ := put_ok h
    have := hm _ h2k
    exact Gv.leaf hg rfl hn (fit_leaf (by simp) (.inr (.inr (.inr (.inl ⟨rfl, rfl⟩)))) ⟨fun _ => this, by omega, by omega⟩) rfl (by unfold termK; simp) rfl
  split at h
  · exact set_v hs hm _ _ _ h hn hg
  split at h
  · obtain ⟨S1, h1, h⟩ := then_ok h
    obtain ⟨kid, S2, h2, h⟩ := bind_ok h
    obtain ⟨S3, h3, h⟩ := then_ok h
    obtain ⟨rfl, rfl⟩ := put_ok h
    obtain ⟨rfl, hne⟩ := open_fair h1
    simp only [X.on] at hne
    have hv := hl.term _ _ _ h2 (by simp only [X.on]; omega) hg
    have hd := hv.dep
    simp only [X.on] at hd
    rw [shut_fair h3]
    refine Gv.put hv.good hv.ext hn (fit_one (by simp) (.inl ⟨.inr rfl, rfl⟩) (by rw [if_pos rfl]; exact hv.cls)) (fun k hk' => ?_) (by unfold termK; simp) rfl
    obtain rfl : k = kid := by simpa using hk'
    refine ⟨hv.lt, ?_⟩
    rw [brB_not (by simp)]
    show S.nest + 1 + 0 + H S2.parts k ≤ 32
    omega
  split at h
  · exact scoped_v hs hl (.inr (.inr rfl)) (by unfold termK; simp) rfl _ _ _ h hn hg
  · exact owned_v hs _ _ _ h hn hg
theorem relation_v {ts : List Tk} {S S' : PS} {kn : Int × Int} (h : relationP ts S = .ok (kn, S')) : kn.1 = 6 ∧ 1 ≤ kn.2 ∧ kn.2 ≤ 6 ∨ kn.1 = 7 ∧ (kn.2 = 0 ∨ kn.2 = 1) := by
  unfold relationP at h
  repeat' split at h
  all_goals first | (injection h with h; injection h with h1 h2; rw [← h1]; simp; done) | cases h
theorem cmp_v {ts : List Tk} (hs : Short ts) (hm : Nums ts) {lo : Lv} (hlf : LvFair lo) (hl : LvV lo) : Mk (cmpP ts lo) condK b45n := by
  intro S a S' h hn hg
  unfold cmpP at h
  obtain ⟨l, S1, h1, h⟩ := bind_ok h
  obtain ⟨kn, S2, h2, h⟩ := bind_ok h
  obtain ⟨r, S3, h3, h⟩ := bind_ok h
  obtain ⟨rfl, rfl⟩ := put_ok h
  have hkn := relation_v h2
  rw [relation_fair h2] at h3
  have n1 := (term_fair hlf _ _ _ h1).nest
  have v1 := term_v hs hm hl _ _ _ h1 hn hg
  have v2 := term_v hs hm hl _ _ _ h3 (by simp only [X.on]; omega) v1.good
  obtain ⟨new, hx⟩ := v2.ext
  obtain ⟨new1, hx1⟩ := v1.ext
  simp only [X.on] at hx
  have k1 : Kid S.nest S3.parts termK b0n l := by rw [hx]; exact v1.kid.app
  have k2 : Kid S.nest S3.parts termK b0n r := by have := v2.kid; simp only [X.on] at this; rw [n1] at this; exact this
  have hb : ∀ x, brB kn.1 x = false := fun x => brB_not (by omega)
  have hr : rnd kn.1 = 0 := by unfold rnd; rw [if_neg (by omega)]
  refine Gv.put v2.good ⟨new1 ++ new, by rw [hx, hx1, List.append_assoc]⟩ hn (fit_two hkn k1.cls k2.cls) (fun k hk => ?_) (by unfold condK; simp only; omega) (by show (if kn.1 = 4 ∨ kn.1 = 5 then 1 else 0) = 0; rw [if_neg (by omega)])
  rw [hr, hb]
  have hk' : k = l ∨ k = r := by simpa using hk
  rcases hk' with rfl | rfl
  · have := k1.dep; exact ⟨k1.lt, by simp only [Bool.false_eq_true, if_false]; omega⟩
  · have := k2.dep; exact ⟨k2.lt, by simp only [Bool.false_eq_true, if_false]; omega⟩
theorem atom_v {ts : List Tk} (hs : Short ts) (hm : Nums ts) {lo : Lv} (hlf : LvFair lo) (hl : LvV lo) : Mk (atomP ts lo) condK b45n := by
  intro S a S' h hn hg
  unfold atomP at h
  simp only at h
  split at h
  · split at h
    · obtain ⟨rfl, rfl⟩ := put_ok h
      exact Gv.leaf hg rfl hn (fit_leaf (by simp) (.inl ⟨by omega, rfl⟩) (by omega)) rfl (by unfold condK; simp) rfl
    split at h
    · obtain ⟨rfl, rfl⟩ := put_ok h
      exact Gv.leaf hg rfl hn (fit_leaf (by simp) (.inl ⟨by omega, rfl⟩) (by omega)) rfl (by unfold condK; simp) rfl
    split at h
    · exact scoped_v hs hl (.inl rfl) (by unfold condK; simp) rfl _ _ _ h hn hg
    split at h
    · exact scoped_v hs hl (.inr (.inl rfl)) (by unfold condK; simp) rfl _ _ _ h hn hg
    split at h
    · obtain ⟨S1, h1, h⟩ := then_ok h
      obtain ⟨s, S2, h2, h⟩ := bind_ok h
      obtain ⟨S3, h3, h⟩ := then_ok h
      obtain ⟨rfl, rfl⟩ := put_ok h
      rw [mark_fair h1] at h2
      obtain ⟨hks, rfl⟩ := text_short hs h2
      rw [mark_fair h3]
      exact Gv.leaf hg rfl hn (fit_leaf hks (by omega) (by omega)) rfl (by unfold condK; simp) rfl
    · exact cmp_v hs hm hlf hl _ _ _ h hn hg
  · exact cmp_v hs hm hlf hl _ _ _ h hn hg
theorem unit_v {ts : List Tk} (hs : Short ts) (hm : Nums ts) {lo : Lv} (hlf : LvFair lo) (hl : LvV lo) : Mk (unitP ts lo) condK b45n := by
  intro S a S' h hn hg
  unfold unitP at h
  split at h
  · obtain ⟨S1, h1, h⟩ := then_ok h
    obtain ⟨kid, S2, h2, h⟩ := bind_ok h
    obtain ⟨rfl, rfl⟩ := put_ok h
    obtain ⟨rfl, hne⟩ := open_fair h1
    have hv := hl.unit _ _ _ h2 (by simp only; omega) hg
    have hd := hv.dep
    simp only at hd
    refine Gv.put hv.good hv.ext hn (fit_one (by simp) (.inl ⟨.inl rfl, rfl⟩) (by rw [if_neg (by decide)]; exact hv.cls)) (fun k hk' => ?_) (by unfold condK; simp) rfl
    obtain rfl : k = kid := by simpa using hk'
    refine ⟨hv.lt, ?_⟩
    show S.nest + 1 + (if brB 3 (at_ S2.parts k).kind = true then 1 else 0) + H S2.parts k ≤ 32
    have e : (if brB 3 (at_ S2.parts k).kind = true then 1 else 0) = b45n (at_ S2.parts k).kind := by simp [brB, b45n]
    rw [e]; omega
  split at h
  · obtain ⟨S1, h1, h⟩ := then_ok h
    obtain ⟨kid, S2, h2, h⟩ := bind_ok h
    obtain ⟨S3, h3, h⟩ := then_ok h
    cases h
    obtain ⟨rfl, hne⟩ := open_fair h1
    have hv := hl.expr _ _ _ h2 (by simp only; omega) hg
    rw [shut_fair h3]
    exact (hv.weak (A' := S) rfl (fun _ h => h) (fun x _ => by simp only [b45n]; split <;> omega)).to rfl
  · exact atom_v hs hm hlf hl _ _ _ h hn hg
theorem loop_v {ts : List Tk} {m : Bs} {one : PS → PR Nat} {br : Int → Nat} (hf : FairF one) (h1 : Mk one condK br) : ∀ (n : Nat) (kids : List Nat) (S : PS) (ks : List Nat) (S' : PS), listLoop ts m one n kids S = .ok (ks, S') → S.nest ≤ 32 → Good S.parts → (∀ k ∈ kids, Kid S.nest S.parts condK br k) →
    Good S'.parts ∧ (∃ new, S'.parts = S.parts ++ new) ∧ (∀ k ∈ ks, Kid S.nest S'.parts condK br k) ∧ (ks.length = kids.length → ks = kids) ∧ kids.length ≤ ks.length
  | 0, kids, S, ks, S', h, hn, hg, hk => by cases h; exact ⟨hg, ⟨[], by simp⟩, hk, fun _ => rfl, Nat.le_refl _⟩
  | n + 1, kids, S, ks, S', h, hn, hg, hk => by
    simp only [listLoop] at h
    split at h
    · cases ho : one (on S) with
      | error f => rw [ho] at h; cases h
      | ok p =>
        obtain ⟨i, S1⟩ := p
        rw [ho] at h
        have n1 : S1.nest = S.nest := (hf _ _ _ ho).nest
        have hv := h1 _ _ _ ho hn hg
        obtain ⟨new, hx⟩ := hv.ext
        obtain ⟨r1, ⟨new2, r2⟩, r3, r4, r5⟩ := loop_v hf h1 n _ _ _ _ h (by rw [n1]; exact hn) hv.good (fun k hk' => by
          rw [n1]
          rcases List.mem_append.1 hk' with hk' | hk'
          · rw [hx]; exact (hk k hk').app
          · obtain rfl : k = i := by simpa using hk'
            exact hv.kid)
        rw [n1] at r3
        simp only [List.length_append, List.length_cons, List.length_nil] at r5
        exact ⟨r1, ⟨new ++ new2, by rw [r2, hx]; simp [X.on]⟩, r3, fun e => by omega, by omega⟩
    · cases h; exact ⟨hg, ⟨[], by simp⟩, hk, fun _ => rfl, Nat.le_refl _⟩
theorem list_v {ts : List Tk} {m : Bs} {kind : Int} {one : PS → PR Nat} {br br' : Int → Nat} (hk : kind = 4 ∨ kind = 5) (hf : FairF one) (h1 : Mk one condK br) (hb : ∀ x, (if brB kind x = true then 1 else 0) ≤ br x) (hb' : ∀ x, br' x ≤ br x) (h0 : br' kind = 0) : Mk (listP ts m kind one) condK br' := by
  intro S a S' h hn hg
  unfold listP at h
  cases ho : one S with
  | error f => rw [ho] at h; cases h
  | ok p =>
    obtain ⟨i, S1⟩ := p
    rw [ho] at h
    have n1 : S1.nest = S.nest := (hf _ _ _ ho).nest
    have hv := h1 _ _ _ ho hn hg
    obtain ⟨new, hx⟩ := hv.ext
    simp only at h
    cases hl : listLoop ts m one 5000 [i] S1 with
    | error f => rw [hl] at h; cases h
    | ok q =>
      obtain ⟨ks, S2⟩ := q
      rw [hl] at h
      obtain ⟨r1, ⟨new2, r2⟩, r3, r4, r5⟩ := loop_v hf h1 _ _ _ _ _ hl (by rw [n1]; exact hn) hv.good (fun k hk' => by
        obtain rfl : k = i := by simpa using hk'
        rw [n1]; exact hv.kid)
      rw [n1] at r3
      simp only [List.length_cons, List.length_nil] at r4 r5
      simp only [listEnd] at h
      split at h
      · rename_i hlen
        cases h
        obtain rfl := r4 (by omega)
        have k := r3 a (by simp)
        exact ⟨r1, ⟨new ++ new2, by rw [r2, hx, List.append_assoc]⟩, k.lt, k.cls, by have := k.dep; have := hb' (at_ S'.parts a).kind; omega⟩
      · rename_i hlen
        obtain ⟨rfl, rfl⟩ := put_ok h
        refine Gv.put r1 ⟨new ++ new2, by rw [r2, hx, List.append_assoc]⟩ hn (fit_many hk (by omega) (fun k hk' => (r3 k hk').cls)) (fun k hk' => ⟨(r3 k hk').lt, ?_⟩) (by unfold condK; simp only; omega) h0
        have d := (r3 k hk').dep
        have := hb (at_ S2.parts k).kind
        have hr : rnd kind = 0 := by unfold rnd; rw [if_neg (by omega)]
        simp only
        rw [hr]; omega
theorem conj_v {ts : List Tk} (hs : Short ts) (hm : Nums ts) {lo : Lv} (hlf : LvFair lo) (hl : LvV lo) : Mk (conjP ts lo) condK b5n :=
  list_v (.inl rfl) (unit_fair hlf) (unit_v hs hm hlf hl) (fun x => by simp [brB, b45n]) (fun x => by simp only [b5n, b45n]; split <;> split <;> omega) rfl
theorem expr_v {ts : List Tk} (hs : Short ts) (hm : Nums ts) {lo : Lv} (hlf : LvFair lo) (hl : LvV lo) : Mk (exprP ts lo) condK b0n :=
  list_v (.inr rfl) (conj_fair hlf) (conj_v hs hm hlf hl) (fun x => by simp [brB, b5n]) (fun x => by simp only [b0n]; omega) rfl
theorem lv_v {ts : List Tk} (hs : Short ts) (hm : Nums ts) : ∀ d, LvV (lv ts d)
  | 0 => by
    have h0 : LvV noLv := ⟨(fun S a S' h => by cases h), (fun S a S' h => by cases h), (fun S a S' h => by cases h)⟩
    have f0 : LvFair noLv := ⟨(fun S a S' h => by cases h), (fun S a S' h => by cases h), (fun S a S' h => by cases h)⟩
    exact ⟨expr_v hs hm f0 h0, unit_v hs hm f0 h0, term_v hs hm h0⟩
  | d + 1 => ⟨expr_v hs hm (lv_fair ts d) (lv_v hs hm d), unit_v hs hm (lv_fair ts d) (lv_v hs hm d), term_v hs hm (lv_v hs hm d)⟩
/-- The tree of a row of tokens: every part fits, the root is a condition, no more stands below it than may be. -/
theorem tree_v {ts : List Tk} (hs : Short ts) (hm : Nums ts) {ps : List PD} {offs : List Nat} (h : treeOf ts = .ok (ps, offs)) : Good ps ∧ ps.length ≤ 1000 ∧ ∃ a, runF [] 0 ps = some [a] ∧ a < ps.length ∧ condK (at_ ps a).kind ∧ H ps a ≤ 32 := by
  unfold treeOf at h
  cases hx : (lv ts 32).expr ⟨0, 0, [], []⟩ with
  | error f => rw [hx] at h; cases h
  | ok p =>
    obtain ⟨i, S⟩ := p
    rw [hx] at h
    simp only at h
    split at h
    · split at h
      · cases h
      · rename_i hb
        injection h with h
        injection h with e1 e2
        subst e1 e2
        obtain ⟨_, new, no, k1, k2, k3, k4, k5⟩ := (lv_builds hs 32).expr _ _ _ hx
        have hv := (lv_v hs hm 32).expr _ _ _ hx (by simp) (fun j hj => absurd hj (by simp))
        simp only [List.nil_append] at k1
        have h4 : runF [] 0 S.parts = some [i] := by rw [k1]; simpa using k4 []
        exact ⟨hv.good, by omega, i, h4, hv.lt, hv.cls, by have := hv.dep; simp at this; omega⟩
    · cases h

end Go.Proofs.YtghhnnbbjlipcaaGreatDoor.X
set_option linter.unusedVariables false
set_option linter.unusedSimpArgs false
namespace Go.Proofs.YtghhnnbbjlipcaaGreatDoor.X
open Go.RowKit
theorem pds_of (ps : List PD) : toPDs (ps.map ofPD) = ps := by
  rw [toPDs, List.map_map]
  exact (List.map_congr_left (fun p _ => to_of p)).trans (List.map_id' _)
theorem rd_of {ps : List PD} {j : Nat} (hj : j < ps.length) : P.rd_T45 (ps.map ofPD) (j : Int) = ofPD (at_ ps j) := by
  simp [P.rd_T45, List.getD_eq_getElem?_getD, List.getElem?_eq_getElem hj, at_]
theorem num_bound {run : Bs} {n : Int} (h : numOf run = some n) : -999999999999999999 ≤ n ∧ n ≤ 999999999999999999 := by
  rw [num_eq] at h
  unfold refNum at h
  generalize (if run.head? = some 45 then run.tail else run) = d at h
  unfold refBody at h
  split at h
  · cases h
  rename_i h1
  split at h
  · cases h
  rename_i h2
  split at h
  · cases h
  have hv := val18 d (by simpa using h2) (by omega)
  injection h with h
  split at h <;> omega
theorem tok_num {l : Bs} {i : Nat} {t : Tk} (h : tokAt l i = .ok t) (hk : t.kind = 2) : -999999999999999999 ≤ t.num ∧ t.num ≤ 999999999999999999 := by
  unfold tokAt at h
  split at h
  · cases h; simp at hk
  · rename_i c r hd
    split at h
    · unfold textAt at h
      split at h
      · cases h
      · cases h
      · cases h
      · split at h
        · cases h
        · cases h; simp at hk
    · have fin : ∀ q : Bool, (if q = true then (match numOf (runL (c :: r)) with
            | some n => (.ok ⟨2, [], n, i, i + (runL (c :: r)).length⟩ : Res)
            | none => .error (114, i))
          else if wordB c then .ok ⟨3, runL (c :: r), 0, i, i + (runL (c :: r)).length⟩
          else match findMark (c :: r) marksL with
            | some m => .ok ⟨4, m, 0, i, i + m.length⟩
            | none => .error (111, i)) = .ok t → -999999999999999999 ≤ t.num ∧ t.num ≤ 999999999999999999 := by
        intro q h
        split at h
        · split at h
          · rename_i n hn
            cases h
            exact num_bound hn
          · cases h
        split at h
        · cases h; simp at hk
        split at h
        · cases h; simp at hk
        · cases h
      exact fin _ h
theorem chain_nums {l : Bs} {ts : List Tk} (h : Chain l 0 ts) : Nums ts := by
  intro i hi
  have hk : ¬ (ts.getD i endT).kind = 0 := by rw [hi]; decide
  exact tok_num (chain_getD h hk).2 hi
theorem size_of (p : PD) : (ofPD p).f1.size = p.text.length := by simp [ofPD]; rfl
theorem part_fitsB {ps : List PD} {p : PD} (h : Fit ps p) : P.partFitsB (ofPD p) = true := by
  have hk := h.kind
  unfold P.partFitsB
  rw [size_of]
  have hl : ((ofPD p).f3.length : Int) = (p.kids.length : Int) := by simp [ofPD]
  rw [hl]
  have h0 : (ofPD p).f0 = p.kind := rfl
  have h2 : (ofPD p).f2 = p.num := rfl
  rw [h0, h2]
  have e1 : decide (1 ≤ p.kind ∧ p.kind ≤ 20) = true := decide_eq_true hk
  have e2 : decide (p.text.length ≤ 127) = true := decide_eq_true h.text
  have e3 : (p.text.length == 0 || P.usesTextB p.kind) = true := by
    rw [Bool.or_eq_true]
    by_cases hu : p.kind = 8 ∨ p.kind = 9 ∨ p.kind = 10 ∨ p.kind = 11 ∨ p.kind = 14 ∨ p.kind = 18 ∨ p.kind = 20
    · right; exact decide_eq_true hu
    · left; rw [h.notext hu]; rfl
  have e4 : P.numFitsB p.kind p.num = true := by
    have c1 := h.cmp
    have c2 := h.isin
    have c3 := h.num
    have c4 := h.side
    have c5 := h.nonum
    unfold P.numFitsB
    split
    · exact decide_eq_true (c1 (by assumption))
    split
    · exact decide_eq_true (c2 (by assumption))
    split
    · exact decide_eq_true (c3 (by assumption))
    split
    · exact decide_eq_true (c4 (by omega))
    · rw [beq_iff_eq]; exact c5 (by omega)
  have e5 : P.kidCountB p.kind (p.kids.length : Int) = true := by
    have c1 := h.one
    have c2 := h.more
    have c3 := h.two
    have c4 := h.set_
    have c5 := h.none_
    unfold P.kidCountB
    split
    · rw [beq_iff_eq]; have := c1 (by assumption); omega
    split
    · have := c2 (by assumption); exact decide_eq_true (by omega)
    split
    · rw [beq_iff_eq]; have := c3 (by assumption); omega
    split
    · have := c4 (by assumption); exact decide_eq_true (by omega)
    · rw [beq_iff_eq, c5 (by omega)]; rfl
  rw [e1, e2, e3, e4, e5]; rfl
theorem kid_fits {ps : List PD} {p : PD} (h : Fit ps p) {k : Nat} (hk : k ∈ p.kids) : P.kidFitsB p.kind (at_ ps k).kind = true := by
  have c1 := h.conds
  have c2 := h.leafs
  have c3 := h.terms
  have c4 := h.none_
  unfold P.kidFitsB
  split
  · have := c1 (by omega) k hk; exact decide_eq_true this
  split
  · have := c2 (by assumption) k hk
    rw [Bool.or_eq_true, beq_iff_eq, beq_iff_eq]; exact this
  · by_cases e : p.kind = 6 ∨ p.kind = 7 ∨ p.kind = 19
    · exact decide_eq_true (c3 e k hk)
    · rw [c4 (by omega)] at hk; cases hk
theorem run_form {ps : List PD} (hg : Good ps) (hroot : condK (at_ ps (ps.length - 1)).kind) (hp : 0 < ps.length) : ∀ (d i : Nat) (free : List Nat) (r : Nat), d = ps.length - i → i ≤ ps.length → runF free i (ps.drop i) = some [r] → P.formGo (ps.map ofPD) ((ps.map ofPD).drop i) i (free.map fun x : Nat => (x : Int)) = none
  | 0, i, free, r, hd, hi, h => by
    obtain rfl : i = ps.length := by omega
    rw [List.drop_length] at h
    injection h with h
    subst h
    have e : (ps.map ofPD).drop ps.length = [] := List.drop_eq_nil_of_le (by simp)
    rw [e]
    simp only [P.formGo]
    have e2 : P.rd_T45 (ps.map ofPD) (((ps.map ofPD).length : Int) - 1) = ofPD (at_ ps (ps.length - 1)) := by
      rw [List.length_map, show ((ps.length : Int) - 1) = ((ps.length - 1 : Nat) : Int) by omega, rd_of (by omega)]
    rw [e2]
    have e3 : P.condB (ofPD (at_ ps (ps.length - 1))).f0 = true := decide_eq_true hroot
    rw [e3]; rfl
  | d + 1, i, free, r, hd, hi, h => by
    have hlt : i < ps.length := by omega
    have hat : ps[i] = at_ ps i := by simp [at_, List.getD_eq_getElem?_getD, List.getElem?_eq_getElem hlt]
    rw [List.drop_eq_getElem_cons hlt, hat] at h
    simp only [runF] at h
    obtain ⟨hf, hkb, _⟩ := hg i hlt
    cases hs : stepF free i (at_ ps i) with
    | none => rw [hs] at h; cases h
    | some g =>
      rw [hs] at h
      simp only at h
      unfold stepF at hs
      split at hs
      · rename_i hfit
        obtain ⟨f1, f2, f3, f4⟩ := hfit
        injection hs with hs
        have hl3 : (ofPD (at_ ps i)).f3.length = (at_ ps i).kids.length := by simp [ofPD]
        have hst : P.stepB (ps.map ofPD) (P.rd_T45 (ps.map ofPD) (i : Int)) (free.map fun x : Nat => (x : Int)) = true := by
          rw [rd_of hlt]
          simp only [P.stepB, Bool.and_eq_true, decide_eq_true_eq, beq_iff_eq, List.all_eq_true, List.length_map]
          refine ⟨⟨⟨part_fitsB hf, by rw [hl3]; exact f1⟩, ?_⟩, fun k hk => ?_⟩
          · rw [hl3, ← List.map_drop, f2]; rfl
          · obtain ⟨y, hy, rfl⟩ : ∃ y ∈ (at_ ps i).kids, ((y : Nat) : Int) = k := by simpa [ofPD] using hk
            rw [rd_of (by have := hkb y hy; omega)]
            exact kid_fits hf hy
        rw [P.formGo_yes (ps.map ofPD) i _ (by simpa using hlt) hst]
        have e : P.stepF (P.rd_T45 (ps.map ofPD) (i : Int)) i (free.map fun x : Nat => (x : Int)) = g.map fun x : Nat => (x : Int) := by
          rw [rd_of hlt, ← hs]
          unfold P.stepF
          rw [hl3, List.length_map, List.map_append, List.map_take]; rfl
        rw [e]
        exact run_form hg hroot hp d (i + 1) g r (by omega) (by omega) h
      · cases hs
theorem deep_none : ∀ (ns : List Int) (i : Nat), (∀ n ∈ ns, n ≤ 32) → P.deepGo ns i = none
  | [], _, _ => rfl
  | n :: ns, i, h => by
    simp only [P.deepGo]
    have := h n List.mem_cons_self
    rw [if_neg (by omega)]
    exact deep_none ns (i + 1) (fun y hy => h y (List.mem_cons_of_mem _ hy))
theorem H_kid {ps : List PD} (hg : Good ps) {j : Nat} (hj : j < ps.length) {k : Nat} (hk : k ∈ (at_ ps j).kids) : rnd (at_ ps j).kind + (if brB (at_ ps j).kind (at_ ps k).kind then 1 else 0) + H ps k ≤ H ps j := by
  have hkj := (hg j hj).2.1 k hk
  obtain ⟨p, hp⟩ : ∃ p, p = at_ ps j := ⟨_, rfl⟩
  obtain ⟨a, b, e, hl⟩ : ∃ a b, ps = (a ++ [p]) ++ b ∧ a.length = j := by
    refine ⟨ps.take j, ps.drop (j + 1), ?_, by simp; omega⟩
    have e : at_ ps j = ps[j] := by simp [at_, List.getD_eq_getElem?_getD, List.getElem?_eq_getElem hj]
    rw [hp, e, List.append_assoc, List.singleton_append, ← List.drop_eq_getElem_cons hj, List.take_append_drop]
  rw [← hp] at hk ⊢
  subst e hl
  rw [H_app (ps := a ++ [p]) (qs := b) (a := a.length) (by simp), H_last, H_app (ps := a ++ [p]) (qs := b) (a := k) (by simp; omega), H_app hkj, at_app (ps := a ++ [p]) (qs := b) (by simp; omega), at_app hkj]
  exact (fold_max_ge (f := fun k => rnd p.kind + (if brB p.kind (at_ a k).kind then 1 else 0) + (hts a).getD k 0) p.kids 0).2 k hk
/-- A tree of parts that fit is valid. -/
theorem good_valid {ps : List PD} (hg : Good ps) (hl : ps.length ≤ 1000) {a : Nat} (hr : runF [] 0 ps = some [a]) (hc : condK (at_ ps a).kind) : P.validSpec (ps.map ofPD) = none := by
  obtain ⟨hsub, hr1⟩ := sub_of_run hr
  obtain ⟨hkl, hdj⟩ := tree_disj hr
  have er : a = ps.length - 1 := by omega
  subst er
  have hp : 0 < ps.length := by omega
  have hf : P.formSpec (ps.map ofPD) = none := by
    unfold P.formSpec
    rw [List.length_map, if_neg (by omega), if_neg (by omega)]
    have := run_form hg hc hp ps.length 0 [] _ rfl (Nat.zero_le _) (by simpa using hr)
    simpa using this
  have hS := P.formSpec_shape _ hf
  unfold P.validSpec
  rw [hf]
  simp only
  refine deep_none _ _ ?_
  obtain ⟨hw, hnl⟩ := P.nestsSpec_within (ps.map ofPD) hS.few
  rw [List.length_map] at hnl
  have kid_mem : ∀ j, j < ps.length → ∀ k ∈ (P.rd_T45 (ps.map ofPD) (j : Int)).f3, k.toNat ∈ (at_ ps j).kids ∧ ((k.toNat : Nat) : Int) = k := fun j hj k hk => by
    rw [rd_of hj] at hk
    obtain ⟨y, hy, rfl⟩ : ∃ y ∈ (at_ ps j).kids, ((y : Nat) : Int) = k := by simpa [ofPD] using hk
    exact ⟨by simpa using hy, by simp⟩
  have hdis : ∀ j j' : Nat, j < j' → j' < (ps.map ofPD).length → ∀ k ∈ (P.rd_T45 (ps.map ofPD) (j' : Int)).f3, k ∉ (P.rd_T45 (ps.map ofPD) (j : Int)).f3 := fun j j' h1 h2 k hk hk2 => by
    rw [List.length_map] at h2
    exact hdj j j' h1 h2 k.toNat (kid_mem j' h2 k hk).1 (kid_mem j (by omega) k hk2).1
  have key : ∀ d j, d = ps.length - j → j < ps.length → (P.nestsSpec (ps.map ofPD)).getD j 0 + (H ps j : Int) ≤ 32 := by
    intro d
    induction d using Nat.strongRecOn with
    | _ d ih =>
      intro j hd hj
      by_cases hx : ∃ j', j' < ps.length ∧ j ∈ (at_ ps j').kids
      · obtain ⟨j', hj', hm⟩ := hx
        have hlt := (hg j' hj').2.1 j hm
        have i1 := ih (ps.length - j') (by omega) j' rfl hj'
        have hm3 : (j : Int) ∈ (P.rd_T45 (ps.map ofPD) (j' : Int)).f3 := by
          rw [rd_of hj']
          exact List.mem_map_of_mem hm
        have e : (P.nestsSpec (ps.map ofPD)).getD j 0 = (P.nestsSpec (ps.map ofPD)).getD j' 0 + P.roundB (P.rd_T45 (ps.map ofPD) (j' : Int)).f0 + (if P.brackB (P.rd_T45 (ps.map ofPD) (j' : Int)).f0 (P.rd_T45 (ps.map ofPD) (j : Int)).f0 then 1 else 0) :=
          nests_rel (ps.map ofPD) hS hdis (ps.map ofPD).length (List.replicate (ps.map ofPD).length 0) (Nat.le_refl _) (by simp) j' (by simpa using hj') (j : Int) hm3
        rw [rd_of hj', rd_of hj] at e
        have hk := H_kid hg hj' hm
        have hrb : P.roundB (ofPD (at_ ps j')).f0 = ((rnd (at_ ps j').kind : Nat) : Int) := by show P.roundB (at_ ps j').kind = _; unfold P.roundB rnd; split <;> rfl
        rw [hrb] at e
        have hbb : P.brackB (ofPD (at_ ps j')).f0 (ofPD (at_ ps j)).f0 = brB (at_ ps j').kind (at_ ps j).kind := rfl
        rw [hbb] at e
        split at e <;> rename_i hb <;> simp only [hb, if_true, if_false, Bool.false_eq_true] at hk <;> omega
      · have := nests_out (ps.map ofPD) (ps.map ofPD).length (List.replicate (ps.map ofPD).length 0) j (fun j' hj' k hk e => by
          rw [List.length_map] at hj'
          exact hx ⟨j', hj', by rw [← e]; exact (kid_mem j' hj' k hk).1⟩)
        have e : (P.nestsSpec (ps.map ofPD)).getD j 0 = 0 := by
          show (P.nestsGo (ps.map ofPD) (ps.map ofPD).length (List.replicate (ps.map ofPD).length 0)).getD j 0 = 0
          rw [List.getD_eq_getElem?_getD, this, List.getElem?_replicate]
          split <;> rfl
        have := (hg j hj).2.2
        rw [e]; omega
  intro n hn
  obtain ⟨j, hj, rfl⟩ := List.mem_iff_getElem.1 hn
  have := key _ j rfl (by omega)
  rw [List.getD_eq_getElem?_getD, List.getElem?_eq_getElem hj] at this
  simp only [Option.getD_some] at this
  omega
/-- What parse makes is a valid tree. -/
theorem parse_valid {l : Bs} {ps : List PD} {offs : List Nat} (h : parseL l = .ok (ps, offs)) : P.validSpec (ps.map ofPD) = none ∧ 0 < ps.length ∧ ps.length ≤ 1000 ∧ l.length ≤ 4096 := by
  unfold parseL at h
  cases hsc : scanL l with
  | mk ts f =>
    rw [hsc] at h
    cases f with
    | some f => cases h
    | none =>
      simp only at h
      obtain ⟨hl, hch⟩ := prefix_chain hsc
      cases ht : treeOf ts with
      | error f => rw [ht] at h; cases h
      | ok q =>
        obtain ⟨ps', offs'⟩ := q
        rw [ht] at h
        injection h with h
        injection h with h1 h2
        subst h1
        obtain ⟨hg, h1000, a, hr, ha, hc, _⟩ := tree_v (chain_short hch) (chain_nums hch) ht
        exact ⟨good_valid hg h1000 hr hc, by omega, h1000, hl⟩

end Go.Proofs.YtghhnnbbjlipcaaGreatDoor.X
