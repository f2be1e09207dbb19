/-
  What Apart's code has in hand. No walk of it.
-/
import Derived.Test.YthcdmnndhjbbfaaDoorKpA
set_option linter.unusedVariables false
set_option linter.unusedSimpArgs false
namespace Go.Proofs.YthcdmnndhjbbfaaDoor.X
open Go.RowKit
theorem row_below' {w w' : World} {base e sz n : Nat} {v : Value} {xs : List Value} (h : w.ownsRow base e sz v n xs) (hb : Below w.heap.size w w') : w'.ownsRow base e sz v n xs :=
  h.kept (row := none) ⟨hb.os, hb.tape, hb.output, hb.size, fun i hi _ => hb.block i hi⟩ (by cases Value.ownBlock _ <;> simp)
abbrev tk9 (k i : Nat) : Tk := ⟨9, [], k, i, 0⟩
abbrev tk7 (k : Nat) : Tk := ⟨7, [], k, 0, 0⟩
theorem RW.lt {w : World} {e sz n : Nat} {v : Value} {xs : List Value} (h : RW w e sz v n xs) : ∀ b, v.ownBlock = some b → b < w.heap.size := fun b hb => by
  rcases h.2 with ⟨rfl, _⟩ | ⟨g, cap, cur, rfl, h1, _⟩
  · cases hb
  · have e1 : g = b := by injection hb
    subst e1
    exact (Array.getElem?_eq_some_iff.1 h1).1
/-- The lists' blocks. -/
def XV (vs : List Value) (b : Nat) : Prop := ∃ v, v ∈ vs ∧ v.ownBlock = some b
/-- The lists: each has a block of its own. -/
structure AIn (w : World) (vs : List Value) (n : Nat) : Prop where
  rows : ∀ v, v ∈ vs → ∃ xs, RW w 44 5 v n xs
  apart : ∀ i j (hi : i < vs.length) (hj : j < vs.length), i ≠ j → ∀ b, vs[i].ownBlock = some b → vs[j].ownBlock ≠ some b
theorem cells_over5 {w : World} {g i : Nat} {e : TypeId} {cur : Array Value} (hg : w.heap[g]? = some (.cells cur e (0, 0))) (c0 c1 c2 c3 c4 : Value) :
    (((((w.setCell ⟨g, i * 5, none⟩ c0).setCell ⟨g, i * 5 + 1, none⟩ c1).setCell ⟨g, i * 5 + 2, none⟩ c2).setCell ⟨g, i * 5 + 3, none⟩ c3).setCell ⟨g, i * 5 + 4, none⟩ c4).heap[g]? = some (.cells (((((cur.set! (i * 5) c0).set! (i * 5 + 1) c1).set! (i * 5 + 2) c2).set! (i * 5 + 3) c3).set! (i * 5 + 4) c4) e (0, 0)) :=
  heap_setCell_same _ _ _ _ _ _ (heap_setCell_same _ _ _ _ _ _ (heap_setCell_same _ _ _ _ _ _ (heap_setCell_same _ _ _ _ _ _ (heap_setCell_same _ _ _ _ _ _ hg))))
theorem cells_over5_other (w : World) (g i k : Nat) (hk : k ≠ g) (c0 c1 c2 c3 c4 : Value) :
    (((((w.setCell ⟨g, i * 5, none⟩ c0).setCell ⟨g, i * 5 + 1, none⟩ c1).setCell ⟨g, i * 5 + 2, none⟩ c2).setCell ⟨g, i * 5 + 3, none⟩ c3).setCell ⟨g, i * 5 + 4, none⟩ c4).heap[k]? = w.heap[k]? :=
  (Below.heap_setCell _ _ _ k hk).trans ((Below.heap_setCell _ _ _ k hk).trans ((Below.heap_setCell _ _ _ k hk).trans ((Below.heap_setCell _ _ _ k hk).trans (Below.heap_setCell _ _ _ k hk))))
/-- A token is written over another one: its list, and the others. -/
structure Over5 (w w' : World) (v : Value) (n i : Nat) (t : Tk) : Prop where
  keep : Keep (fun b => v.ownBlock = some b) w w'
  row : ∃ xs, RW w' 44 5 v n xs
  new : TokC w' v i t
  old : ∀ k u, k ≠ i → TokC w v k u → TokC w' v k u
theorem own_len (a : Option Addr) (n m c c' : Nat) : (Value.slice a n c).ownBlock = (Value.slice a m c').ownBlock := by cases a <;> rfl
set_option maxHeartbeats 4000000 in
theorem over5 {w : World} {g n c i : Nat} {xs : List Value} (h : RW w 44 5 (.slice (some ⟨g, 0, none⟩) n c) n xs) (hi : i < n) (t : Tk) :
    Over5 w (((((w.setCell ⟨g, i * 5, none⟩ (.int .i64 t.kind)).setCell ⟨g, i * 5 + 1, none⟩ (.string ⟨t.text.toArray⟩)).setCell ⟨g, i * 5 + 2, none⟩ (.int .i64 t.num)).setCell ⟨g, i * 5 + 3, none⟩ (.int .i64 t.at_)).setCell ⟨g, i * 5 + 4, none⟩ (.int .i64 t.end_)) (.slice (some ⟨g, 0, none⟩) n c) n i t := by
  rcases h.2 with ⟨h1, _⟩ | ⟨g', c', cur, h1, h2, h3, h4, h5, h6⟩
  · cases h1
  injection h1 with e1 _ e3
  injection e1 with e1
  injection e1 with e1
  subst e1 e3
  have hs := cells_over5 (i := i) h2 (.int .i64 t.kind) (.string ⟨t.text.toArray⟩) (.int .i64 t.num) (.int .i64 t.at_) (.int .i64 t.end_)
  have ho := cells_over5_other w g i
  have hz : (((((w.setCell ⟨g, i * 5, none⟩ (.int .i64 t.kind)).setCell ⟨g, i * 5 + 1, none⟩ (.string ⟨t.text.toArray⟩)).setCell ⟨g, i * 5 + 2, none⟩ (.int .i64 t.num)).setCell ⟨g, i * 5 + 3, none⟩ (.int .i64 t.at_)).setCell ⟨g, i * 5 + 4, none⟩ (.int .i64 t.end_)).heap.size = w.heap.size := by simp
  have hos : (((((w.setCell ⟨g, i * 5, none⟩ (.int .i64 t.kind)).setCell ⟨g, i * 5 + 1, none⟩ (.string ⟨t.text.toArray⟩)).setCell ⟨g, i * 5 + 2, none⟩ (.int .i64 t.num)).setCell ⟨g, i * 5 + 3, none⟩ (.int .i64 t.at_)).setCell ⟨g, i * 5 + 4, none⟩ (.int .i64 t.end_)).os = w.os := rfl
  have htp : (((((w.setCell ⟨g, i * 5, none⟩ (.int .i64 t.kind)).setCell ⟨g, i * 5 + 1, none⟩ (.string ⟨t.text.toArray⟩)).setCell ⟨g, i * 5 + 2, none⟩ (.int .i64 t.num)).setCell ⟨g, i * 5 + 3, none⟩ (.int .i64 t.at_)).setCell ⟨g, i * 5 + 4, none⟩ (.int .i64 t.end_)).tape = w.tape := rfl
  have hou : (((((w.setCell ⟨g, i * 5, none⟩ (.int .i64 t.kind)).setCell ⟨g, i * 5 + 1, none⟩ (.string ⟨t.text.toArray⟩)).setCell ⟨g, i * 5 + 2, none⟩ (.int .i64 t.num)).setCell ⟨g, i * 5 + 3, none⟩ (.int .i64 t.at_)).setCell ⟨g, i * 5 + 4, none⟩ (.int .i64 t.end_)).output = w.output := rfl
  replace ho := fun k hk => ho k hk (.int .i64 t.kind) (.string ⟨t.text.toArray⟩) (.int .i64 t.num) (.int .i64 t.at_) (.int .i64 t.end_)
  generalize (((((w.setCell ⟨g, i * 5, none⟩ (.int .i64 t.kind)).setCell ⟨g, i * 5 + 1, none⟩ (.string ⟨t.text.toArray⟩)).setCell ⟨g, i * 5 + 2, none⟩ (.int .i64 t.num)).setCell ⟨g, i * 5 + 3, none⟩ (.int .i64 t.at_)).setCell ⟨g, i * 5 + 4, none⟩ (.int .i64 t.end_)) = W at hs ho hz hos htp hou ⊢
  obtain ⟨cur', hcur⟩ : ∃ c', c' = (((((cur.set! (i * 5) (.int .i64 t.kind)).set! (i * 5 + 1) (.string ⟨t.text.toArray⟩)).set! (i * 5 + 2) (.int .i64 t.num)).set! (i * 5 + 3) (.int .i64 t.at_)).set! (i * 5 + 4) (.int .i64 t.end_)) := ⟨_, rfl⟩
  rw [← hcur] at hs
  have hsz : cur'.size = cur.size := by rw [hcur]; simp
  have hcs : n * 5 ≤ cur.size := by have := Nat.mul_le_mul_right 5 h3; omega
  refine ⟨⟨hos, htp, hou, by omega, fun k _ hx => ho k (fun e => hx (by rw [e]; rfl))⟩, ⟨cur'.toList.take (n * 5), ⟨?_, .inr ⟨g, c, cur', rfl, hs, h3, h4, by omega, rfl⟩⟩⟩, ?_, ?_⟩
  · rw [List.length_take, Array.length_toList]
    omega
  · refine ⟨g, n, c, rfl, fun j u hu => ?_⟩
    rw [Lib.cell_of_heap hs, ← hu]
    have hj : j < 5 := (List.getElem?_eq_some_iff.1 hu).1
    rcases (by omega : j = 0 ∨ j = 1 ∨ j = 2 ∨ j = 3 ∨ j = 4) with rfl | rfl | rfl | rfl | rfl <;> (rw [hcur]; simp [tokCells, Array.getElem?_setIfInBounds]; try omega)
  · rintro k u hk ⟨g1, n1, c1, e, hc⟩
    injection e with e1 e2 e3
    injection e1 with e1
    injection e1 with e1
    subst e1 e2 e3
    refine ⟨g, n, c, rfl, fun j u hu => ?_⟩
    rw [Lib.cell_of_heap hs, ← hc j u hu, Lib.cell_of_heap h2]
    have hj : j < 5 := (List.getElem?_eq_some_iff.1 hu).1
    have n0 : ∀ d, d < 5 → i * 5 + d ≠ k * 5 + j := fun d hd => by omega
    have m0 := n0 0 (by omega)
    have m1 := n0 1 (by omega)
    have m2 := n0 2 (by omega)
    have m3 := n0 3 (by omega)
    have m4 := n0 4 (by omega)
    rw [hcur]
    simp only [Array.set!_eq_setIfInBounds, Array.getElem?_setIfInBounds, if_neg m1, if_neg m2, if_neg m3, if_neg m4, if_neg (show ¬ i * 5 = k * 5 + j from m0)]
/-- The lists are written over, as far as k. -/
structure A1 (w wr : World) (vs : List Value) (n k : Nat) : Prop where
  keep : Keep (XV vs) w wr
  rows : ∀ v, v ∈ vs → ∃ xs, RW wr 44 5 v n xs
  done : ∀ j (h : j < vs.length), j < k → ∀ i, i < n → TokC wr vs[j] i (tk9 j i)
/-- .. and of the next list i tokens. -/
structure A1i (w wr : World) (vs : List Value) (n k i : Nat) (h : k < vs.length) : Prop where
  out : A1 w wr vs n k
  part : ∀ i', i' < i → TokC wr vs[k] i' (tk9 k i')
theorem A1i.step {w0 w wr w1 : World} {vs : List Value} {n k i : Nat} {hk : k < vs.length} (h : A1i w wr vs n k i hk) (h0 : AIn w0 vs n) (hs : Over5 wr w1 vs[k] n i (tk9 k i)) : A1i w w1 vs n k (i + 1) hk := by
  refine ⟨⟨h.out.keep.trans hs.keep (fun b _ e => ⟨_, List.getElem_mem hk, e⟩), fun v hv => ?_, fun j hj hjk i' hi' => ?_⟩, fun i' hi' => ?_⟩
  · obtain ⟨j, hj, rfl⟩ := List.mem_iff_getElem.1 hv
    by_cases e : j = k
    · subst e; exact hs.row
    · obtain ⟨xs, hx⟩ := h.out.rows _ hv
      exact ⟨xs, hx.keep hs.keep (fun b hb => h0.apart j k hj hk e b hb)⟩
  · exact (h.out.done j hj hjk i' hi').keep hs.keep (fun b hb => h0.apart j k hj hk (by omega) b hb)
  · by_cases e : i' = i
    · subst e; exact hs.new
    · exact hs.old _ _ e (h.part i' (by omega))
theorem A1i.fin {w wr : World} {vs : List Value} {n k : Nat} {hk : k < vs.length} (h : A1i w wr vs n k n hk) : A1 w wr vs n (k + 1) :=
  ⟨h.out.keep, h.out.rows, fun j hj hjk i hi => by
    by_cases e : j = k
    · subst e; exact h.part i hi
    · exact h.out.done j hj (by omega) i hi⟩
theorem A1.begin {w wr : World} {vs : List Value} {n k : Nat} (hk : k < vs.length) (h : A1 w wr vs n k) : A1i w wr vs n k 0 hk := ⟨h, fun i' hi' => by omega⟩
/-- A list is grown: from W0 to wq; v5 has m more. -/
structure WG (W0 wq : World) (v : Value) (n : Nat) (xs : List Value) (m : Nat) (v5 : Value) : Prop where
  keep : Keep (fun b => v.ownBlock = some b) W0 wq
  row : RW wq 44 5 v n xs
  row5 : ∃ ys, RW wq 44 5 v5 (n + m) ys ∧ ((∃ a c, v = .slice a n c ∧ v5 = .slice a (n + m) c ∧ ys.take (n * 5) = xs) ∨ ∃ g, v5.ownBlock = some g ∧ W0.heap.size ≤ g)
theorem WG.begin {W0 : World} {v : Value} {n : Nat} {xs : List Value} (h : RW W0 44 5 v n xs) : WG W0 W0 v n xs 0 v := by
  obtain ⟨a, c, rfl, _, _⟩ := h.shape
  exact ⟨Keep.refl _ _, h, xs, h, .inl ⟨a, c, rfl, rfl, by rw [← h.1, List.take_length]⟩⟩
theorem WG.below {W0 wq w1 : World} {v v5 : Value} {n m : Nat} {xs : List Value} (h : WG W0 wq v n xs m v5) (hb : Below wq.heap.size wq w1) : WG W0 w1 v n xs m v5 := by
  obtain ⟨ys, h1, h2⟩ := h.row5
  exact ⟨h.keep.below hb, h.row.below hb, ys, h1.below hb, h2⟩
theorem WG.step {W0 wq w1 : World} {v v5 v6 : Value} {n m : Nat} {xs ys news : List Value} (h0 : RW W0 44 5 v n xs) (hk : Keep (fun b => v.ownBlock = some b) W0 wq) (hrow : RW wq 44 5 v n xs)
    (hl : ys.length = (n + m) * 5) (hat5 : (∃ a c, v = .slice a n c ∧ v5 = .slice a (n + m) c ∧ ys.take (n * 5) = xs) ∨ ∃ g, v5.ownBlock = some g ∧ W0.heap.size ≤ g) (hr : RW w1 44 5 v6 (n + m + 1) (ys ++ news))
    (hat : (∃ a c, v5 = .slice a (n + m) c ∧ v6 = .slice a (n + m + 1) c ∧ wq.grownBy w1 v5.ownBlock) ∨ ∃ g, v6.ownBlock = some g ∧ wq.heap.size ≤ g ∧ wq.grownBy w1 none) : WG W0 w1 v n xs (m + 1) v6 := by
  have hz := hk.size
  have hlt := h0.lt
  rcases hat with ⟨a5, c5, rfl, rfl, hg⟩ | ⟨g, h1, h2, h3⟩
  · have hkg := Keep.of_grown hg
    rcases hat5 with ⟨a, c, rfl, e5, e6⟩ | ⟨g, h4, h5⟩
    · injection e5 with e5 _ e7
      subst e5 e7
      refine ⟨hk.trans hkg (fun b _ hb => (own_len _ _ _ _ _).trans hb), ?_, _, hr, .inl ⟨_, _, rfl, rfl, ?_⟩⟩
      · have := hr.shrink (n := n) (by omega)
        rw [List.take_append_of_le_length (by rw [hl]; omega), e6] at this
        exact this
      · rw [List.take_append_of_le_length (by rw [hl]; omega), e6]
    · refine ⟨hk.trans hkg (fun b hb e => by rw [h4] at e; injection e with e; omega), ?_, _, hr, .inr ⟨g, (own_len _ _ _ _ _).trans h4, h5⟩⟩
      exact hrow.keep hkg (fun b hb e => by rw [h4] at e; injection e with e; have := hlt b hb; omega)
  · have hkg := Keep.of_grown h3
    exact ⟨hk.trans hkg (fun b _ e => by cases e), hrow.keep hkg (fun b _ e => by cases e), _, hr, .inr ⟨g, h1, by omega⟩⟩
/-- A list and its copy that is one token longer. -/
structure WH (W0 w1 : World) (v : Value) (n : Nat) (xs : List Value) (k : Nat) (v7 : Value) : Prop where
  keep : Keep (fun b => v.ownBlock = some b) W0 w1
  row : RW w1 44 5 v n xs
  tok : TokC w1 v7 n (tk7 k)
  shp : ∃ g c, v7 = .slice (some ⟨g, 0, none⟩) (n + 1) c ∧ g < w1.heap.size ∧ (v.ownBlock = some g ∨ W0.heap.size ≤ g)
theorem WH.of {W0 wq w1 : World} {v v7 : Value} {n k : Nat} {xs : List Value} (h0 : RW W0 44 5 v n xs) (hk : Keep (fun b => v.ownBlock = some b) W0 wq) (hrow : RW wq 44 5 v n xs)
    (hr : RW w1 44 5 v7 (n + 1) (xs ++ (tokCells (tk7 k)).toList))
    (hat : (∃ a c, v = .slice a n c ∧ v7 = .slice a (n + 1) c ∧ wq.grownBy w1 v.ownBlock) ∨ ∃ g, v7.ownBlock = some g ∧ wq.heap.size ≤ g ∧ wq.grownBy w1 none) : WH W0 w1 v n xs k v7 := by
  have hz := hk.size
  have ht := TokC.of_rw hr h0.1
  obtain ⟨g, cap, e, hgz, _, _⟩ := hr.cells (by omega)
  rcases hat with ⟨a, c, rfl, e7, hg⟩ | ⟨g1, h1, h2, h3⟩
  · have hkg := Keep.of_grown hg
    rw [e] at e7
    injection e7 with e7 _ e8
    subst e7 e8
    refine ⟨hk.trans hkg (fun b _ hb => hb), ?_, ht, g, cap, e, hgz, .inl rfl⟩
    subst e
    have := hr.shrink (n := n) (by omega)
    rw [List.take_append_of_le_length (by rw [h0.1]; omega), ← h0.1, List.take_length] at this
    exact this
  · have hkg := Keep.of_grown h3
    subst e
    have e1 : g = g1 := by injection h1
    exact ⟨hk.trans hkg (fun b _ e => by cases e), hrow.keep hkg (fun b _ e => by cases e), ht, g, cap, rfl, hgz, .inr (by omega)⟩
/-- All are written over; the first k are grown: gs, a row in gv. -/
structure A2 (w wr : World) (vs : List Value) (n : Nat) (gs : List Value) (gv : Value) : Prop where
  keep : Keep (XV vs) w wr
  rows : ∀ v, v ∈ vs → ∃ xs, RW wr 44 5 v n xs
  done : ∀ j (h : j < vs.length) i, i < n → TokC wr vs[j] i (tk9 j i)
  own : wr.ownsRow w.heap.size 33 1 gv gs.length gs
  gr : ∀ j (h : j < gs.length), TokC wr gs[j] n (tk7 j) ∧ ∃ g c, gs[j] = .slice (some ⟨g, 0, none⟩) (n + 1) c ∧ g < wr.heap.size ∧ gv.ownBlock ≠ some g ∧ ∀ i (hi : i < vs.length), j < i → vs[i].ownBlock ≠ some g
theorem A2.begin {w wr : World} {vs : List Value} {n : Nat} (h : A1 w wr vs n vs.length) : A2 w wr vs n [] (.slice none 0 0) :=
  ⟨h.keep, h.rows, fun j hj i hi => h.done j hj hj i hi, World.ownsRow_nil _ _ _ _, fun j h => absurd h (Nat.not_lt_zero _)⟩
theorem A2.step {w wr w1 W w2 : World} {vs gs xs : List Value} {n : Nat} {gv gv1 v7 : Value} (h : AIn w vs n) (a : A2 w wr vs n gs gv) (hk : gs.length < vs.length) (h0 : RW wr 44 5 vs[gs.length] n xs)
    (g : WH wr w1 vs[gs.length] n xs gs.length v7) (hb : Below w1.heap.size w1 W) (ho : w2.ownsRow w.heap.size 33 1 gv1 (gs.length + 1) (gs ++ [v7])) (hg : W.grownBy w2 gv.ownBlock)
    (hat : gv1.ownBlock = gv.ownBlock ∨ ∃ b, gv1.ownBlock = some b ∧ W.heap.size ≤ b) : A2 w w2 vs n (gs ++ [v7]) gv1 := by
  have hvs : ∀ v, v ∈ vs → ∀ b, v.ownBlock = some b → b < w.heap.size := fun v hv b hb => by
    obtain ⟨xs, hx⟩ := h.rows v hv
    exact hx.lt b hb
  have hgv : ∀ b, gv.ownBlock = some b → w.heap.size ≤ b ∧ b < wr.heap.size := fun b hb => a.own.lt b hb
  have z1 := a.keep.size
  have z2 := g.keep.size
  have z3 := hb.size
  have hkg := Keep.of_grown hg
  have hk1 : Keep (fun b => gv.ownBlock = some b) w1 w2 := (Keep.of_below hb (X := fun b => gv.ownBlock = some b)).trans hkg (fun _ _ e => e)
  have hmem := List.getElem_mem hk
  refine ⟨(a.keep.trans g.keep (fun b _ e => ⟨_, hmem, e⟩)).trans hk1 (fun b hb e => by have := (hgv b e).1; omega), fun v hv => ?_, fun j hj i hi => ?_, by rw [List.length_append]; exact ho, fun j hj => ?_⟩
  · obtain ⟨j, hj, rfl⟩ := List.mem_iff_getElem.1 hv
    have hx1 : ∃ xs, RW w1 44 5 vs[j] n xs := by
      by_cases e : j = gs.length
      · subst e; exact ⟨_, g.row⟩
      · obtain ⟨xs, hx⟩ := a.rows _ hv
        exact ⟨xs, hx.keep g.keep (fun b hb => h.apart j gs.length hj hk e b hb)⟩
    obtain ⟨xs, hx⟩ := hx1
    exact ⟨xs, hx.keep hk1 (fun b hb e => by have := hvs _ hv b hb; have := (hgv b e).1; omega)⟩
  · have ht : TokC w1 vs[j] i (tk9 j i) := by
      by_cases e : j = gs.length
      · subst e; exact (a.done _ hj i hi).same h0 g.row hi
      · exact (a.done j hj i hi).keep g.keep (fun b hb => h.apart j gs.length hj hk e b hb)
    exact ht.keep hk1 (fun b hb e => by have := hvs _ (List.getElem_mem hj) b hb; have := (hgv b e).1; omega)
  · by_cases e : j < gs.length
    · obtain ⟨g1, b, c, g2, g3, g4, g5⟩ := a.gr j e
      rw [List.getElem_append_left e]
      refine ⟨(g1.keep g.keep (fun b' hb' => ?_)).keep hk1 (fun b' hb' => ?_), b, c, g2, by have := hk1.size; omega, fun e2 => ?_, g5⟩
      · rw [g2] at hb'
        have e3 : b = b' := by injection hb'
        subst e3
        exact g5 _ hk e
      · rw [g2] at hb'
        have e3 : b = b' := by injection hb'
        subst e3
        exact g4
      · rcases hat with h1 | ⟨b1, h1, h2⟩
        · exact g4 (h1.symm.trans e2)
        · rw [h1] at e2; injection e2 with e2; omega
    · obtain rfl : j = gs.length := by rw [List.length_append] at hj; simp at hj; omega
      obtain ⟨b, c, g2, g3, g4⟩ := g.shp
      have hne : gv.ownBlock ≠ some b := fun e2 => by
        have h5 := hgv b e2
        rcases g4 with g4 | g4
        · have := hvs _ hmem b g4; omega
        · omega
      rw [List.getElem_concat_length rfl]
      refine ⟨g.tok.keep hk1 (fun b' hb' => ?_), b, c, g2, by have := hk1.size; omega, fun e2 => ?_, fun i hi hji e2 => ?_⟩
      · rw [g2] at hb'
        have e3 : b = b' := by injection hb'
        subst e3
        exact hne
      · rcases hat with h1 | ⟨b1, h1, h2⟩
        · exact hne (h1.symm.trans e2)
        · rw [h1] at e2; injection e2 with e2; omega
      · rcases g4 with g4 | g4
        · exact h.apart gs.length i hk hi (by omega) b g4 e2
        · have := hvs _ (List.getElem_mem hi) b e2; omega
theorem A2.below {w wr w1 : World} {vs gs : List Value} {n : Nat} {gv : Value} (a : A2 w wr vs n gs gv) (hb : Below wr.heap.size wr w1) : A2 w w1 vs n gs gv :=
  ⟨a.keep.below hb, fun v hv => (a.rows v hv).imp fun _ h => h.below hb, fun j hj i hi => (a.done j hj i hi).keep (Keep.of_below hb (X := fun _ => False)) (fun _ _ h => h), row_below' a.own hb,
   fun j hj => by
    obtain ⟨g1, b, c, g2, g3, g4, g5⟩ := a.gr j hj
    exact ⟨g1.keep (Keep.of_below hb (X := fun _ => False)) (fun _ _ h => h), b, c, g2, Nat.lt_of_lt_of_le g3 hb.size, g4, g5⟩⟩

end Go.Proofs.YthcdmnndhjbbfaaDoor.X
