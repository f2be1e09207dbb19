/-
  What LexKeeps' code has in hand. No walk of it.
-/
import Derived.Test.YthcdmnndhjbbfaaDoorKpC
set_option linter.unusedVariables false
set_option linter.unusedSimpArgs false
namespace Go.Proofs.YthcdmnndhjbbfaaDoor.X
open Go.RowKit
/-- An error: none, or the fault f in a block from base on. -/
def FltAt (w : World) (base : Nat) (ev : Value) : Option (Int × Nat) → Prop
  | none => ev = .nilIface
  | some f => ∃ b, ev = .iface 47 (.pointer (some ⟨b, 0, none⟩)) ∧ base ≤ b ∧ b < w.heap.size ∧ w.heap[b]? = some (faultObj f.1 f.2)
theorem FltAt.keep {w w' : World} {base : Nat} {ev : Value} {f : Option (Int × Nat)} {X : Nat → Prop} (h : FltAt w base ev f) (hk : Keep X w w') (hx : ∀ b, base ≤ b → b < w.heap.size → ¬ X b) : FltAt w' base ev f := by
  cases f with
  | none => exact h
  | some f =>
    obtain ⟨b, h1, h2, h3, h4⟩ := h
    exact ⟨b, h1, h2, Nat.lt_of_lt_of_le h3 hk.size, (hk.block b h3 (hx b h2 h3)).trans h4⟩
theorem FltAt.below {w w' : World} {base : Nat} {ev : Value} {f : Option (Int × Nat)} (h : FltAt w base ev f) (hb : Below w.heap.size w w') : FltAt w' base ev f := h.keep (Keep.of_below hb (X := fun _ => False)) (fun _ _ _ h => h)
theorem scan_u (s : ByteArray) (w : World) (hs : s.size ≤ 9223372036854775807) (hL : LW w) :
    Calls Tryd.prog 18 #[.string s] w fun e w' => Below w.heap.size w w' ∧ ∃ a c ev, e = .returned (.tuple #[.slice a (scanL s.data.toList).1.length c, ev]) ∧ TokSl w' w.heap.size (.slice a (scanL s.data.toList).1.length c) (scanL s.data.toList).1 ∧ FltAt w' w.heap.size ev (scanL s.data.toList).2 := by
  refine (scan_any s w hs hL).mono fun e w' h => ?_
  obtain ⟨hB, h⟩ := h
  refine ⟨hB, ?_⟩
  rcases scan_cases s.data.toList with ⟨ts, hr, _⟩ | ⟨c, a, hr, _⟩
  · rw [hr] at h ⊢
    obtain ⟨v, hO, rfl⟩ := h
    obtain ⟨a, c, rfl⟩ := own_slice hO
    exact ⟨a, c, _, rfl, hO, rfl⟩
  · rw [hr] at h ⊢
    obtain ⟨b, rfl, h1, h2⟩ := h
    exact ⟨none, 0, _, rfl, World.ownsRow_nil _ _ _ _, b, rfl, h1, (Array.getElem?_eq_some_iff.1 h2).1, h2⟩
theorem isFault_u (w : World) (base : Nat) (ev : Value) (f : Option (Int × Nat)) (hf : ∀ c a, f = some (c, a) → c ≠ 0) (h : FltAt w base ev f) :
    Calls Tryd.prog 16 #[ev, .int .i64 (codeOf f), .int .i64 (placeOf f)] w fun e w' => e = .returned (.bool true) ∧ w = w' := by
  cases f with
  | none =>
    obtain rfl := h
    exact isFault_nil _ _
  | some f =>
    obtain ⟨c, a⟩ := f
    obtain ⟨b, rfl, _, _, h4⟩ := h
    exact isFault_some b c a (hf c a rfl) w h4
/-- The answers, one behind the other, in a row av. -/
structure C1 (w0 wr : World) (ts : List Tk) (vs : List Value) (av : Value) : Prop where
  bel : Below w0.heap.size w0 wr
  own : wr.ownsRow w0.heap.size 33 1 av vs.length vs
  toks : ∀ v, v ∈ vs → TokSl wr w0.heap.size v ts
  apart : ∀ i j (hi : i < vs.length) (hj : j < vs.length), i ≠ j → ∀ b, vs[i].ownBlock = some b → vs[j].ownBlock ≠ some b
  ne : ∀ v, v ∈ vs → ∀ b, v.ownBlock = some b → av.ownBlock ≠ some b
theorem C1.begin (w0 : World) (ts : List Tk) : C1 w0 w0 ts [] (.slice none 0 0) :=
  ⟨Below.refl _ _, World.ownsRow_nil _ _ _ _, fun v h => absurd h (by simp), fun i j hi => absurd hi (Nat.not_lt_zero _), fun v h => absurd h (by simp)⟩
theorem C1.below {w0 wr w' : World} {ts : List Tk} {vs : List Value} {av : Value} (h : C1 w0 wr ts vs av) (hb : Below wr.heap.size wr w') : C1 w0 w' ts vs av :=
  ⟨h.bel.trans (hb.mono h.bel.size), row_below' h.own hb, fun v hv => row_below' (h.toks v hv) hb, h.apart, h.ne⟩
theorem C1.step {w0 wr w1 W w2 : World} {ts : List Tk} {vs : List Value} {av av1 v : Value} (h : C1 w0 wr ts vs av) (hb : Below wr.heap.size wr w1) (hv : TokSl w1 wr.heap.size v ts) (hb2 : Below w1.heap.size w1 W)
    (ho : w2.ownsRow w0.heap.size 33 1 av1 (vs.length + 1) (vs ++ [v])) (hg : W.grownBy w2 av.ownBlock) (hat : av1.ownBlock = av.ownBlock ∨ ∃ b, av1.ownBlock = some b ∧ W.heap.size ≤ b) : C1 w0 w2 ts (vs ++ [v]) av1 := by
  have hv' := hv
  have hz0 := h.bel.size
  have hz1 := hb.size
  have hz2 := hb2.size
  have hB := h.bel.trans ((hb.trans (hb2.mono hz1)).mono hz0)
  have hav : ∀ b, av.ownBlock = some b → w0.heap.size ≤ b ∧ b < wr.heap.size := fun b hb => h.own.lt b hb
  have hvb : ∀ b, v.ownBlock = some b → wr.heap.size ≤ b ∧ b < w1.heap.size := fun b hb => hv.lt b hb
  have hold : ∀ u, u ∈ vs → ∀ b, u.ownBlock = some b → b < wr.heap.size := fun u hu b hb => ((h.toks u hu).lt b hb).2
  refine ⟨hB.grown hg hB.size (fun k e => (hav k e).1), by rw [List.length_append]; exact ho, fun u hu => ?_, fun i j hi hj hij b h1 h2 => ?_, fun u hu b h1 h2 => ?_⟩
  · rcases List.mem_append.1 hu with hu | hu
    · have h1 := row_below' (row_below' (h.toks u hu) hb) hb2
      exact h1.kept hg (by
        cases e : u.ownBlock with
        | none => exact .inl rfl
        | some b => exact .inr (fun e2 => h.ne u hu b e e2.symm))
    · obtain rfl := List.mem_singleton.1 hu
      have h1 := row_base (row_below' hv hb2) hz0
      exact h1.kept hg (by
        cases e : u.ownBlock with
        | none => exact .inl rfl
        | some b => exact .inr (fun e2 => by have := (hav b e2.symm).2; have := (hvb b e).1; omega))
  · rw [List.length_append] at hi hj
    simp only [List.length_singleton] at hi hj
    by_cases hi' : i < vs.length
    · rw [List.getElem_append_left hi'] at h1
      by_cases hj' : j < vs.length
      · rw [List.getElem_append_left hj'] at h2
        exact h.apart i j hi' hj' hij b h1 h2
      · obtain rfl : j = vs.length := by omega
        rw [List.getElem_concat_length rfl] at h2
        have := hold _ (List.getElem_mem hi') b h1
        have := (hvb b h2).1
        omega
    · obtain rfl : i = vs.length := by omega
      rw [List.getElem_concat_length rfl] at h1
      have hj' : j < vs.length := by omega
      rw [List.getElem_append_left hj'] at h2
      have := hold _ (List.getElem_mem hj') b h2
      have := (hvb b h1).1
      omega
  · have hlt : b < W.heap.size ∧ av.ownBlock ≠ some b := by
      rcases List.mem_append.1 hu with hu | hu
      · exact ⟨by have := hold u hu b h1; omega, h.ne u hu b h1⟩
      · obtain rfl := List.mem_singleton.1 hu
        have := hvb b h1
        exact ⟨by omega, fun e => by have := (hav b e).2; omega⟩
    rcases hat with e | ⟨b1, e, hb1⟩
    · exact hlt.2 (e.symm.trans h2)
    · rw [e] at h2; injection h2 with h2; omega
theorem C1.ain {w0 wr : World} {ts : List Tk} {vs : List Value} {av : Value} (h : C1 w0 wr ts vs av) : AIn wr vs ts.length := ⟨fun v hv => ⟨_, RW.of_own (h.toks v hv)⟩, h.apart⟩
theorem C1.after {w0 wr w' : World} {ts : List Tk} {vs : List Value} {av : Value} (h : C1 w0 wr ts vs av) (hk : Keep (XV vs) wr w') : Below w0.heap.size w0 w' :=
  hk.to_below h.bel h.bel.size fun b ⟨v, hv, hb⟩ => ((h.toks v hv).lt b hb).1

end Go.Proofs.YthcdmnndhjbbfaaDoor.X
