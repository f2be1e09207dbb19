/-
  Plain law of ParseBlanks: the gaps of a row of numbers; the row of places as it is written.
-/
import Derived.Test.YtghhnnbbjlipcaaDoorParGp
set_option linter.unusedVariables false
set_option linter.unusedSimpArgs false
namespace Go.Proofs.YtghhnnbbjlipcaaDoor.X
open Go.RowKit
/-- A row of numbers that came in. -/
def IntsG (w : World) (v : Value) (gs : List Int) : Prop :=
  (v = .slice none 0 0 ∧ gs = []) ∨ ∃ a cap, v = .slice (some a) gs.length cap ∧ ∀ i (h : i < gs.length), w.cell? (a.add i) = some (.int .i64 gs[i])
def normG (n : Int) : Nat := if n < 0 then (-(n + 1)).toNat else n.toNat
def gapsOf (gs : List Int) (i : Nat) : Bs := if gs.length = 0 then [32] else gapG (normG (gs.getD (i % gs.length) 0))
theorem gp_of (gs : List Int) (i : Nat) : Gp (gapsOf gs i) := by
  unfold gapsOf
  split
  · exact ⟨by simp, rfl, fun y => by simp [gapN, blankB]; omega⟩
  · exact gp_gap _
theorem gaps_len (gs : List Int) (i : Nat) : (gapsOf gs i).length ≤ 18 := by
  unfold gapsOf
  split
  · simp
  · exact gap_len _
/-- The places of the first k tokens are written. -/
structure Mvd (l : Bs) (ts : List Tk) (G : Nat → Bs) (k : Nat) (cur : Array Value) : Prop where
  size : cur.size = l.length + 1
  at_ : ∀ j, j < k → cur[(ts.getD j endT).at_]? = some (.int .i64 (movedG l ts G j : Nat))
theorem Mvd.step {l : Bs} {ts : List Tk} {G : Nat → Bs} {k : Nat} {cur : Array Value} (hc : Chain l 0 ts) (h : Mvd l ts G k cur) (hk : k < ts.length) : Mvd l ts G (k + 1) (cur.setIfInBounds (ts.getD k endT).at_ (.int .i64 (movedG l ts G k : Nat))) := by
  have hg : ∀ i (hi : i < ts.length), ts.getD i endT = ts[i] := fun i hi => by rw [List.getD_eq_getElem?_getD, List.getElem?_eq_getElem hi]; rfl
  refine ⟨by rw [Array.size_setIfInBounds]; exact h.size, fun j hj => ?_⟩
  have hp : (ts.getD k endT).at_ < cur.size := by rw [h.size]; have := place_le hc k; unfold placeT at this; omega
  rcases Nat.lt_or_ge j k with h1 | h1
  · have hne : (ts.getD k endT).at_ ≠ (ts.getD j endT).at_ := by
      rw [hg k hk, hg j (by omega)]
      have := chain_inc hc j k h1 hk
      omega
    rw [Array.getElem?_setIfInBounds_ne hne]
    exact h.at_ j h1
  · obtain rfl : j = k := by omega
    rw [Array.getElem?_setIfInBounds_self_of_lt hp]
/-- The source with other gaps, so far. -/
theorem bl_step {l : Bs} {ts : List Tk} {G : Nat → Bs} {k : Nat} (hk : k < ts.length) : blOf l G 0 (ts.take (k + 1)) = blOf l G 0 (ts.take k) ++ (G k ++ ownOf l ts[k]) := by
  rw [List.take_succ_eq_append_getElem hk, blOf_snoc, List.length_take, Nat.zero_add, Nat.min_eq_left (by omega)]
theorem own_le {l : Bs} {ts : List Tk} (hc : Chain l 0 ts) {k : Nat} (hk : k < ts.length) : ts[k].at_ ≤ ts[k].end_ ∧ ts[k].end_ ≤ l.length := by
  by_cases h0 : ts[k].kind = 0
  · obtain ⟨us, hts, hu⟩ := chain_toks hc
    have h1 : ts[k] ∈ us ++ [⟨0, [], 0, l.length, l.length⟩] := by rw [← hts]; exact List.getElem_mem hk
    rcases List.mem_append.1 h1 with h2 | h2
    · exact absurd h0 (hu _ h2).2.2
    · simp only [List.mem_singleton] at h2
      rw [h2]; exact ⟨Nat.le_refl _, Nat.le_refl _⟩
  · have := chain_in hc k hk h0; omega
theorem bl_len {l : Bs} {ts : List Tk} (hc : Chain l 0 ts) (gs : List Int) : ∀ k, k ≤ ts.length → (blOf l (gapsOf gs) 0 (ts.take k)).length ≤ k * (18 + l.length)
  | 0, _ => by simp [blOf]
  | k + 1, h => by
    have h1 := bl_len hc gs k (by omega)
    have h2 := gaps_len gs k
    have h3 := own_le hc (k := k) (by omega)
    rw [bl_step (by omega), List.length_append, List.length_append]
    have h4 : (ownOf l ts[k]).length ≤ l.length := by unfold ownOf; rw [List.length_take, List.length_drop]; omega
    have h5 : (k + 1) * (18 + l.length) = k * (18 + l.length) + (18 + l.length) := Nat.succ_mul _ _
    omega

end Go.Proofs.YtghhnnbbjlipcaaDoor.X
