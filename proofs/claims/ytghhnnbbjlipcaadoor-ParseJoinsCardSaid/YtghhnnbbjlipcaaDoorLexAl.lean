/-
  Plain law of LexAlone: a token alone; the tokens with a blank and a remark between.
-/
import Derived.Test.YtghhnnbbjlipcaaDoorLexO
set_option linter.unusedVariables false
set_option linter.unusedSimpArgs false
namespace Go.Proofs.YtghhnnbbjlipcaaDoor.X
def ownOf (l : Bs) (t : Tk) : Bs := (l.drop t.at_).take (t.end_ - t.at_)
theorem tok_shape (t : Tk) (a e : Nat) (h1 : t.at_ = a) (h2 : t.end_ = e) : ({ t with at_ := a, end_ := e } : Tk) = t := by subst h1; subst h2; rfl
/-- The token cut out of its source. -/
theorem own_tok {l : Bs} {t : Tk} (hi : t.at_ ≤ l.length) (h : tokAt l t.at_ = .ok t) (hk : ¬ t.kind = 0) :
    tokAt (ownOf l t) 0 = .ok { t with at_ := 0, end_ := (ownOf l t).length } ∧ (ownOf l t).length = t.end_ - t.at_ ∧ t.at_ < t.end_ ∧ t.end_ ≤ l.length := by
  have hb := tok_cases hi h hk
  rw [tokAt_drop l _ hi] at h
  cases h0 : tokAt (l.drop t.at_) 0 with
  | error f => rw [h0] at h; cases h
  | ok t0 =>
    rw [h0] at h
    simp only [shR] at h
    injection h with h
    have hk0 : ¬ t0.kind = 0 := by intro e; apply hk; rw [← h]; exact e
    have hc := tok_cases (Nat.zero_le _) h0 hk0
    have hc2 := tokAt_cut h0 hk0
    have he : t0.end_ = t.end_ - t.at_ := by
      have h1 : t.end_ = t0.end_ + t.at_ := by conv => lhs; rw [← h]; simp only [shT]
      omega
    have hl : (ownOf l t).length = t.end_ - t.at_ := by unfold ownOf; rw [List.length_take, List.length_drop]; omega
    refine ⟨?_, hl, hb.2.1, hb.2.2⟩
    rw [he] at hc2
    unfold ownOf
    rw [hc2]
    congr 1
    unfold ownOf at hl
    rw [hl]
    obtain ⟨k0, x0, n0, a0, e0⟩ := t0
    obtain ⟨k, x, n, a, e⟩ := t
    simp only [shT, Tk.mk.injEq] at h hc he
    obtain ⟨rfl, rfl, rfl, _, _⟩ := h
    simp only [Tk.mk.injEq]
    exact ⟨trivial, trivial, trivial, hc.1, he⟩
theorem chain_one {o : Bs} {t : Tk} (h : tokAt o 0 = .ok t) (hk : ¬ t.kind = 0) (he : t.end_ = o.length) : Chain o 0 [t, ⟨0, [], 0, o.length, o.length⟩] := by
  have h1 := tok_no_gap h hk []
  rw [List.append_nil] at h1
  obtain ⟨k1, k2, k3⟩ := tok_own h hk
  have hs : skipN o 0 = 0 := by unfold skipN; rw [List.drop_zero, h1]
  refine .cons 0 t _ (Nat.zero_le _) (by rw [hs]; exact h) hk (by rw [hs]; exact k1) (by omega) k3 ?_
  rw [he]
  refine .fin _ (Nat.le_refl _) ?_
  unfold skipN
  rw [List.drop_length]; simp [gapN]
/-- The tokens of a chain, but its end. -/
theorem chain_toks {l : Bs} {i : Nat} {ts : List Tk} (h : Chain l i ts) : ∃ us, ts = us ++ [⟨0, [], 0, l.length, l.length⟩] ∧ ∀ t ∈ us, t.at_ ≤ l.length ∧ tokAt l t.at_ = .ok t ∧ ¬ t.kind = 0 := by
  induction h with
  | fin i hi hs => exact ⟨[], rfl, fun t ht => by cases ht⟩
  | cons i t ts hi ht hk ha hl he hc ih =>
    obtain ⟨us, rfl, hu⟩ := ih
    refine ⟨t :: us, rfl, fun x hx => ?_⟩
    rcases List.mem_cons.1 hx with rfl | hx
    · exact ⟨by omega, by rw [ha]; exact ht, hk⟩
    · exact hu x hx
/-- A source of just one token. -/
theorem scan_alone {l : Bs} {t : Tk} (hl : l.length ≤ 4096) (hi : t.at_ ≤ l.length) (h : tokAt l t.at_ = .ok t) (hk : ¬ t.kind = 0) :
    scanL (ownOf l t) = ([{ t with at_ := 0, end_ := (ownOf l t).length }, ⟨0, [], 0, (ownOf l t).length, (ownOf l t).length⟩], none) := by
  obtain ⟨h1, h2, h3, h4⟩ := own_tok hi h hk
  exact chain_prefix (by omega) (chain_one h1 hk rfl)
/-- A blank, a remark. -/
abbrev gapA : Bs := [32, 35, 34, 10]
theorem gapA_closed : Closed gapA := fun y => by simp [gapN, blankB, gapA]; omega
def wideOf (l : Bs) (ts : List Tk) : Bs := ts.flatMap fun t => gapA ++ ownOf l t
theorem wide_snoc (l : Bs) (ts : List Tk) (t : Tk) : wideOf l (ts ++ [t]) = wideOf l ts ++ (gapA ++ ownOf l t) := by simp [wideOf]
def itemsOf (l : Bs) (us : List Tk) : List (Bs × Bs × Tk) := us.map fun t => (gapA, ownOf l t, { t with at_ := 0, end_ := (ownOf l t).length })
theorem wide_join (l : Bs) (us : List Tk) : wideOf l (us ++ [⟨0, [], 0, l.length, l.length⟩]) = joinT (itemsOf l us) gapA := by
  induction us with
  | nil => simp [wideOf, itemsOf, joinT, ownOf]
  | cons t us ih =>
    simp only [wideOf, itemsOf, joinT, List.cons_append, List.flatMap_cons, List.map_cons] at ih ⊢
    rw [ih, List.append_assoc]
/-- The same tokens, but for their places. -/
def sameTk (a b : Tk) : Prop := a.kind = b.kind ∧ a.text = b.text ∧ a.num = b.num
theorem toks_same (l : Bs) (total : Nat) : ∀ (us : List Tk) (k : Nat), (toksT total k (itemsOf l us)).length = us.length + 1 ∧ ∀ j (h : j < (toksT total k (itemsOf l us)).length), sameTk ((toksT total k (itemsOf l us))[j]) ((us ++ [(⟨0, [], 0, l.length, l.length⟩ : Tk)]).getD j ⟨0, [], 0, 0, 0⟩)
  | [], k => ⟨rfl, fun j h => by
    simp only [itemsOf, toksT, List.map_nil, List.length_cons, List.length_nil] at h
    obtain rfl : j = 0 := by omega
    exact ⟨rfl, rfl, rfl⟩⟩
  | t :: us, k => by
    obtain ⟨h1, h2⟩ := toks_same l total us (k + gapA.length + (ownOf l t).length)
    refine ⟨by simp only [itemsOf, List.map_cons, toksT, List.length_cons] at h1 ⊢; rw [h1], fun j h => ?_⟩
    cases j with
    | zero => exact ⟨rfl, rfl, rfl⟩
    | succ j => exact h2 j (by simpa [itemsOf, toksT] using h)
/-- The tokens put apart read as the same tokens. -/
theorem scan_wide {l : Bs} {ts : List Tk} (h : scanL l = (ts, none)) (hw : (wideOf l ts).length ≤ 4096) :
    ∃ vs, scanL (wideOf l ts) = (vs, none) ∧ vs.length = ts.length ∧ ∀ j (h1 : j < vs.length) (h2 : j < ts.length), sameTk vs[j] ts[j] := by
  obtain ⟨hl, hc⟩ := prefix_chain h
  obtain ⟨us, rfl, hu⟩ := chain_toks hc
  rw [wide_join] at hw ⊢
  have hj := chain_join gapA gapA_closed rfl (itemsOf l us) [] (fun p hp => by
    obtain ⟨t, ht, rfl⟩ := List.mem_map.1 hp
    obtain ⟨h1, h2, h3⟩ := hu t ht
    obtain ⟨k1, k2, k3, k4⟩ := own_tok h1 h2 h3
    exact ⟨by simp, rfl, gapA_closed, k1, h3, rfl⟩)
  simp only [List.nil_append, List.length_nil] at hj
  have hs := toks_same l (joinT (itemsOf l us) gapA).length us 0
  refine ⟨_, chain_prefix hw hj, by rw [hs.1]; simp, fun j h1 h2 => ?_⟩
  have := hs.2 j h1
  rw [List.getD_eq_getElem?_getD, List.getElem?_eq_getElem h2] at this
  exact this

end Go.Proofs.YtghhnnbbjlipcaaDoor.X
