/-
  Memory that is written over and grown (ParseMemory). No walk.
  The walk of Wipe over numbers.
  The walk of Wipe over parts.
  What ParseMemory's code has in hand. No walk of it.
  What ParseMemory's walk begins with: all answers are there. No walk.
-/
import Derived.Test.YtfiljgkcipnghaaGreatDoorMcLast
import Derived.ArgAppend
set_option linter.unusedVariables false
set_option linter.unusedSimpArgs false
namespace Go.Proofs.YtfiljgkcipnghaaGreatDoor.X
open Go.RowKit
/-- Blocks of X alone (and new ones) have changed. -/
structure Keep (X : Nat → Prop) (w w' : World) : Prop where
  os : w'.os = w.os
  tape : w'.tape = w.tape
  output : w'.output = w.output
  size : w.heap.size ≤ w'.heap.size
  block : ∀ k, k < w.heap.size → ¬ X k → w'.heap[k]? = w.heap[k]?
theorem Keep.refl (X : Nat → Prop) (w : World) : Keep X w w := ⟨rfl, rfl, rfl, Nat.le_refl _, fun _ _ _ => rfl⟩
theorem Keep.trans {X Y : Nat → Prop} {a b c : World} (h : Keep X a b) (k : Keep Y b c) (hxy : ∀ i, i < a.heap.size → Y i → X i) : Keep X a c :=
  ⟨k.os.trans h.os, k.tape.trans h.tape, k.output.trans h.output, Nat.le_trans h.size k.size, fun i hi hx => (k.block i (Nat.lt_of_lt_of_le hi h.size) (fun hy => hx (hxy i hi hy))).trans (h.block i hi hx)⟩
theorem Keep.mono {X Y : Nat → Prop} {a b : World} (h : Keep X a b) (hxy : ∀ i, i < a.heap.size → X i → Y i) : Keep Y a b :=
  ⟨h.os, h.tape, h.output, h.size, fun i hi hy => h.block i hi (fun hx => hy (hxy i hi hx))⟩
theorem Keep.of_below {X : Nat → Prop} {a b : World} (h : Below a.heap.size a b) : Keep X a b := ⟨h.os, h.tape, h.output, h.size, fun i hi _ => h.block i hi⟩
theorem Keep.below {X : Nat → Prop} {a b c : World} (h : Keep X a b) (k : Below b.heap.size b c) : Keep X a c := h.trans (Keep.of_below k (X := X)) (fun _ _ hx => hx)
theorem Keep.of_grown {a b : World} {row : Option Nat} (h : a.grownBy b row) : Keep (fun k => row = some k) a b := ⟨h.os, h.tape, h.output, h.size, fun i hi hx => h.block i hi (fun e => hx e.symm)⟩
/-- The world beneath B stays if all of X stands behind B. -/
theorem Keep.to_below {X : Nat → Prop} {w0 a b : World} {B : Nat} (h0 : Below B w0 a) (h : Keep X a b) (hB : B ≤ a.heap.size) (hx : ∀ k, X k → B ≤ k) : Below B w0 b :=
  ⟨h.os.trans h0.os, h.tape.trans h0.tape, h.output.trans h0.output, Nat.le_trans h0.size h.size, fun k hk => (h.block k (by omega) (fun e => by have := hx k e; omega)).trans (h0.block k hk)⟩
theorem Keep.cell {X : Nat → Prop} {a b : World} (h : Keep X a b) {g j : Nat} {v : Value} (hc : a.cell? ⟨g, j, none⟩ = some v) (hx : ¬ X g) : b.cell? ⟨g, j, none⟩ = some v :=
  (World.cell?_of_block (a := ⟨g, j, none⟩) (h.block g (World.block_lt_of_cell? _ _ hc) hx)).trans hc
/-- A row: in its block there is room for all of its capacity. -/
def RW (w : World) (e sz : Nat) (v : Value) (n : Nat) (xs : List Value) : Prop :=
  xs.length = n * sz ∧ ((v = .slice none 0 0 ∧ n = 0) ∨ ∃ g cap cur, v = .slice (some ⟨g, 0, none⟩) n cap ∧ w.heap[g]? = some (.cells cur e (0, 0)) ∧ n ≤ cap ∧ cap ≤ maxLen ∧ cap * sz ≤ cur.size ∧ cur.toList.take (n * sz) = xs)
theorem RW.of_in {w : World} {base e sz n : Nat} {v : Value} {xs : List Value} (h : RowIn w base e sz v n xs) (hn : n ≤ 1000000000) : RW w e sz v n xs := by
  refine ⟨h.len, ?_⟩
  rcases h.at_ with h1 | ⟨g, cur, h1, h2, h3, h4, h5⟩
  · exact .inl h1
  · exact .inr ⟨g, n, cur, h1, h3, Nat.le_refl _, by simp only [maxLen]; omega, h4, h5⟩
theorem RW.of_own {w : World} {base e sz n : Nat} {v : Value} {xs : List Value} (h : w.ownsRow base e sz v n xs) : RW w e sz v n xs := by
  refine ⟨h.1, ?_⟩
  rcases h.2 with h1 | ⟨g, cap, cur, h1, h2, h3, h4, h5, h6, h7⟩
  · exact .inl h1
  · exact .inr ⟨g, cap, cur, h1, h3, h4, h5, by omega, h7⟩
theorem RW.keep {w w' : World} {e sz n : Nat} {v : Value} {xs : List Value} {X : Nat → Prop} (h : RW w e sz v n xs) (hk : Keep X w w') (hx : ∀ k, v.ownBlock = some k → ¬ X k) : RW w' e sz v n xs := by
  refine ⟨h.1, ?_⟩
  rcases h.2 with h1 | ⟨g, cap, cur, rfl, h3, h4⟩
  · exact .inl h1
  · exact .inr ⟨g, cap, cur, rfl, (hk.block g (Array.getElem?_eq_some_iff.1 h3).1 (hx g rfl)).trans h3, h4⟩
theorem RW.below {w w' : World} {e sz n : Nat} {v : Value} {xs : List Value} (h : RW w e sz v n xs) (hb : Below w.heap.size w w') : RW w' e sz v n xs := h.keep (Keep.of_below hb (X := fun _ => False)) (fun _ _ h => h)
theorem RW.shape {w : World} {e sz n : Nat} {v : Value} {xs : List Value} (h : RW w e sz v n xs) : ∃ a cap, v = .slice a n cap ∧ n ≤ cap ∧ cap ≤ maxLen := by
  rcases h.2 with ⟨h1, h2⟩ | ⟨g, cap, _, h1, _, h2, h3, _⟩
  · exact ⟨none, 0, by rw [h1, h2], by omega, by simp [maxLen]⟩
  · exact ⟨_, _, h1, h2, h3⟩
/-- append of one element: in place, or to a new row. -/
theorem run_append_rw {w : World} (t ty e : TypeId) (i : TypeInfo) (z : Value) (size bytes : Nat) (ht : Tryz.prog.underlying t = some (.slice e)) (hi : Tryz.prog.info? e = some i) (hz : i.zero = some z)
    (hsize : i.size = size) (hby : i.bytes = bytes) (hzs : z.cells.size = size) (hsz : 0 < size) (hbs : bytes ≤ 1000)
    (v : Value) (n : Nat) (xs : List Value) (h : RW w e size v n xs) (a : Addr) (c : Nat) (news : List Value) (hl : news.length = size) (hnews : ∀ j u, news[j]? = some u → w.cell? (a.add j) = some u) (h1 : ∀ u ∈ news, u.oneCell' = true)
    (hn : n ≤ 1000000000) :
    ∃ v' w', (Builtin.append_ #[t, t] ty #[v, .slice (some a) 1 c]).run Tryz.prog w = .ok v' w' ∧ RW w' e size v' (n + 1) (xs ++ news) ∧
      ((v'.ownBlock = v.ownBlock ∧ w.grownBy w' v.ownBlock) ∨ ∃ g, v'.ownBlock = some g ∧ w.heap.size ≤ g ∧ w.grownBy w' none) := by
  have hby2 : (n + 1) * bytes ≤ 140737488355328 := Nat.le_trans (Nat.mul_le_mul (show n + 1 ≤ 1000000001 by omega) hbs) (by decide)
  have hml : n + 1 ≤ maxLen := by simp only [maxLen]; omega
  rcases h.2 with ⟨rfl, rfl⟩ | ⟨g, cap, cur, rfl, hg, hnc, hcm, hcs, htake⟩
  · obtain rfl : xs = [] := List.eq_nil_of_length_eq_zero (by simpa using h.1)
    obtain ⟨v', w', hr, hown, hgr, _, hat⟩ := run_append_own_at (P := Tryz.prog) w 0 t ty e i z size bytes ht hi hz hsize hby hzs hsz (.slice none 0 0) 0 [] (World.ownsRow_nil w 0 e size) a 1 c news (by omega) hnews h1 hml hby2 (Nat.zero_le _)
    refine ⟨v', w', hr, RW.of_own hown, .inr ?_⟩
    obtain ⟨g, cap, rfl⟩ := own_some hown
    rcases hat with e1 | e1
    · cases e1
    · exact ⟨_, e1, Nat.le_refl _, hgr⟩
  · by_cases hroom : n + 1 ≤ cap
    · subst hsize
      have hm : (n + 1) * i.size ≤ cap * i.size := Nat.mul_le_mul_right _ hroom
      have hfit : n * i.size + news.length ≤ cur.size := by rw [hl]; rw [Nat.add_mul] at hm; omega
      have hr := run_append_room (P := Tryz.prog) w t ty e i ht hi g n cap cur hg a 1 c news (by omega) hnews h1 hroom hfit
      refine ⟨_, _, hr, ⟨by rw [List.length_append, h.1, hl, Nat.add_mul]; omega, .inr ⟨g, cap, _, rfl, setRow_heap w g cur _ e _ hg, hroom, hcm, ?_, ?_⟩⟩, .inl ⟨rfl, ⟨rfl, rfl, rfl, by simp, fun k _ hk => setRow_other w g k _ (fun e => hk (by simp [Value.ownBlock, e]))⟩⟩⟩
      · simp only [List.size_toArray, List.length_append, List.length_take, List.length_drop, Array.length_toList]
        omega
      · rw [htake, show (n + 1) * i.size = (xs ++ news).length by rw [List.length_append, h.1, hl, Nat.add_mul]; omega]
        exact List.take_left
    · have holds : ∀ j u, xs[j]? = some u → w.cell? ((⟨g, 0, none⟩ : Addr).add j) = some u := fun j u hu => by
        have hadd : (⟨g, 0, none⟩ : Addr).add j = ⟨g, j, none⟩ := by unfold Addr.add; split <;> simp_all
        have hj : j < n * size := by have := (List.getElem?_eq_some_iff.1 hu).1; rw [h.1] at this; exact this
        rw [hadd, Lib.cell_of_heap hg, ← Array.getElem?_toList]
        rw [← htake, List.getElem?_take, if_pos hj] at hu
        exact hu
      obtain ⟨v', w', hr, hown, hgr⟩ := run_append_arg_grows (P := Tryz.prog) w t ty e i z size bytes ht hi hz hsize hby hzs hsz ⟨g, 0, none⟩ n cap xs h.1 holds a 1 c news (by omega) hnews (by omega) hml hby2
      refine ⟨v', w', hr, RW.of_own hown, .inr ?_⟩
      obtain ⟨g', cap', rfl⟩ := own_some hown
      exact ⟨g', rfl, (hown.lt g' rfl).1, hgr⟩
/-- append of one element that stands in the last block. -/
theorem app_rw {ops : Array Oper} {rest : List Oper} {o : Oper} {a : Act} {Q : Exit → Act → World → Prop} {W : World} (hgd : o.guard = none) (s x : Operand) (t e : TypeId)
    (ho : o.op = .call { callee := .builtin .append, args := #[s, x], argTypes := #[t, t] })
    (i : TypeInfo) (z : Value) (size bytes : Nat) (ht : Tryz.prog.underlying t = some (.slice e)) (hi : Tryz.prog.info? e = some i) (hz : i.zero = some z)
    (hsize : i.size = size) (hby : i.bytes = bytes) (hzs : z.cells.size = size) (hsz : 0 < size) (hbs : bytes ≤ 1000)
    (v : Value) (n : Nat) (xs : List Value) (cs : Array Value) (hcl : cs.size = size) (h1 : ∀ u ∈ cs.toList, u.oneCell' = true) (hs : a.eval s = v) (hx : a.eval x = .slice (some ⟨W.heap.size, 0, none⟩) 1 1)
    (HO : RW W e size v n xs) (hl : n ≤ 1000000000)
    (h : ∀ v1 w1, RW w1 e size v1 (n + 1) (xs ++ cs.toList) → ((v1.ownBlock = v.ownBlock ∧ (W.alloc (.cells cs e)).grownBy w1 v.ownBlock) ∨ ∃ g, v1.ownBlock = some g ∧ (W.alloc (.cells cs e)).heap.size ≤ g ∧ (W.alloc (.cells cs e)).grownBy w1 none) → wpList Tryz.prog ops Q rest (a.put o.dst v1) w1) :
    wpList Tryz.prog ops Q (o :: rest) a (W.alloc (.cells cs e)) := by
  obtain ⟨v1, w1, hr, hown, hat⟩ := run_append_rw t o.type e i z size bytes ht hi hz hsize hby hzs hsz hbs v n xs (HO.below ((Below.refl _ _).alloc (Nat.le_refl _) _)) ⟨W.heap.size, 0, none⟩ 1 cs.toList (by simpa using hcl)
    (fun j u hu => World.news_of_block (cs := cs) (t := e) (fr := (0, 0)) (heap_alloc_new W _) j u (by simpa using hu)) h1 hl
  refine wpList_plain hgd fun K hK => ?_
  unfold Oper.wp execOp
  simp only [ho, resolve, invoke, builtin, Sem.run_bind, Sem.run_pure, Result.andThen_ok, List.map_toArray, List.map_cons, List.map_nil, hs, hx, hr]
  exact hK _ _ (h v1 w1 hown hat)
/-- The list while it is written over (k elements done). -/
structure WB1 (w wr : World) (e sz : Nat) (v : Value) (n : Nat) : Prop where
  keep : Keep (fun k => v.ownBlock = some k) w wr
  row : ∃ xs, RW wr e sz v n xs
theorem WB1.set {w wr : World} {e sz n g cap : Nat} (h : WB1 w wr e sz (.slice (some ⟨g, 0, none⟩) n cap) n) (j : Nat) (u : Value) : WB1 w (wr.setCell ⟨g, j, none⟩ u) e sz (.slice (some ⟨g, 0, none⟩) n cap) n := by
  obtain ⟨hk, xs, hl, h2⟩ := h
  refine ⟨⟨hk.os, hk.tape, hk.output, by simpa using hk.size, fun i hi hx => (Below.heap_setCell wr ⟨g, j, none⟩ u i (fun e => hx (by rw [e]; rfl))).trans (hk.block i hi hx)⟩, ?_⟩
  rcases h2 with ⟨h3, _⟩ | ⟨g', cap', cur, h3, h4, h5, h6, h7, h8⟩
  · cases h3
  · injection h3 with e1 _ e3
    injection e1 with e1
    injection e1 with e1
    subst e1 e3
    refine ⟨((cur.set! j u).toList.take (n * sz)), ?_, .inr ⟨g, cap, cur.set! j u, rfl, heap_setCell_same _ _ _ _ _ _ h4, h5, h6, by simpa using h7, rfl⟩⟩
    have := Nat.mul_le_mul_right sz h5
    simp
    omega
/-- The cells of a list. -/
theorem RW.cells {w : World} {e sz n : Nat} {v : Value} {xs : List Value} (h : RW w e sz v n xs) (hn : 0 < n) : ∃ g cap, v = .slice (some ⟨g, 0, none⟩) n cap ∧ g < w.heap.size ∧ (∀ j, w.frozen? ⟨g, j, none⟩ = false) ∧ ∀ j, j < n * sz → ∃ u, xs[j]? = some u ∧ w.cell? ⟨g, j, none⟩ = some u := by
  rcases h.2 with ⟨_, h2⟩ | ⟨g, cap, cur, h1, h2, h3, h4, h5, h6⟩
  · omega
  · refine ⟨g, cap, h1, (Array.getElem?_eq_some_iff.1 h2).1, fun j => by simp [World.frozen?, h2], fun j hj => ?_⟩
    have hx : j < xs.length := by rw [h.1]; exact hj
    refine ⟨xs[j], List.getElem?_eq_getElem hx, ?_⟩
    rw [Lib.cell_of_heap h2, ← Array.getElem?_toList]
    have e : xs[j]? = cur.toList[j]? := by rw [← h6, List.getElem?_take, if_pos hj]
    rw [← e, List.getElem?_eq_getElem hx]
/-- k numbers are the mark. -/
def Marked (w : World) (v : Value) (k : Nat) (m : Int) : Prop := ∀ j, j < k → ∃ g n c, v = .slice (some ⟨g, 0, none⟩) n c ∧ w.cell? ⟨g, j, none⟩ = some (.int .i64 m)
theorem Marked.ints {w : World} {v : Value} {n cap : Nat} {a : Option Addr} {m : Int} (h : Marked w v n m) (hv : v = .slice a n cap) : IntsAt w v (List.replicate n m) := by
  cases n with
  | zero => exact .inl ⟨rfl, a, cap, hv⟩
  | succ n =>
    obtain ⟨g, n', c, rfl, h1⟩ := h 0 (by omega)
    injection hv with e1 e2 e3
    subst e1 e2 e3
    refine .inr ⟨g, 0, c, by simp, World.block_lt_of_cell? _ _ h1, fun k hk => ?_⟩
    obtain ⟨g', n', c', e, h2⟩ := h k (by simpa using hk)
    injection e with e
    injection e with e
    injection e with e
    subst e
    simpa using h2
theorem Marked.keep {w w' : World} {v : Value} {k : Nat} {m : Int} {X : Nat → Prop} (h : Marked w v k m) (hk : Keep X w w') (hx : ∀ i, v.ownBlock = some i → ¬ X i) : Marked w' v k m := fun j hj => by
  obtain ⟨g, n, c, rfl, h1⟩ := h j hj
  exact ⟨g, n, c, rfl, hk.cell h1 (hx g rfl)⟩
theorem RW.marked {w : World} {v v5 : Value} {n n5 : Nat} {m : Int} {a : Option Addr} {cap : Nat} (hv : v = .slice a n cap) (ha : v.ownBlock = v5.ownBlock) (ha0 : ∀ p, a = some p → p = ⟨p.block, 0, none⟩) (h : RW w 3 1 v5 n5 (List.replicate n5 (.int .i64 m))) (hn : n ≤ n5) : Marked w v n m := fun j hj => by
  obtain ⟨g, cap5, rfl, _, _, hc⟩ := h.cells (by omega)
  obtain ⟨u, hu, hcu⟩ := hc j (by omega)
  rw [hv] at ha ⊢
  cases a with
  | none => cases ha
  | some p =>
    have := ha0 p rfl
    injection ha with ha
    rw [this, ha]
    refine ⟨g, n, cap, rfl, ?_⟩
    rw [hcu]
    have := (List.getElem?_eq_some_iff.1 hu).2
    rw [List.getElem_replicate] at this
    rw [this]
/-- The list while it is grown. -/
structure WB2 (w wr : World) (v : Value) (n : Nat) (m : Int) (k : Nat) (v5 : Value) : Prop where
  keep : Keep (fun k => v.ownBlock = some k) w wr
  row : RW wr 3 1 v5 (n + k) (List.replicate (n + k) (.int .i64 m))
  at_ : v5.ownBlock = v.ownBlock ∨ (Marked wr v n m ∧ ∃ g, v5.ownBlock = some g ∧ w.heap.size ≤ g)
theorem WB2.marks {w wr : World} {v v5 : Value} {n k : Nat} {m : Int} (h : WB2 w wr v n m k v5) {xs : List Value} (h0 : RW w 3 1 v n xs) : Marked wr v n m := by
  rcases h.at_ with h1 | ⟨h1, _⟩
  · rcases h0.2 with ⟨rfl, rfl⟩ | ⟨g, cap, cur, rfl, _⟩
    · exact fun j hj => by omega
    · exact RW.marked (a := some ⟨g, 0, none⟩) rfl h1.symm (fun p hp => by injection hp with hp; rw [← hp]) h.row (by omega)
  · exact h1
theorem WB2.step {w wr W w1 : World} {v v5 v6 : Value} {n k : Nat} {m : Int} (h : WB2 w wr v n m k v5) {xs : List Value} (h0 : RW w 3 1 v n xs) (hb : Below wr.heap.size wr W) (hr : RW w1 3 1 v6 (n + k + 1) (List.replicate (n + k) (.int .i64 m) ++ [.int .i64 m]))
    (hat : (v6.ownBlock = v5.ownBlock ∧ W.grownBy w1 v5.ownBlock) ∨ ∃ g, v6.ownBlock = some g ∧ W.heap.size ≤ g ∧ W.grownBy w1 none) : WB2 w w1 v n m (k + 1) v6 := by
  have hM := h.marks h0
  have hK := h.keep.below hb
  have hz := hK.size
  have hr' : RW w1 3 1 v6 (n + (k + 1)) (List.replicate (n + (k + 1)) (.int .i64 m)) := by
    rw [show n + (k + 1) = n + k + 1 by omega, List.replicate_succ']
    exact hr
  have hvl : ∀ i, v.ownBlock = some i → i < w.heap.size := fun i hi => by
    rcases h0.2 with ⟨rfl, rfl⟩ | ⟨g, cap, cur, rfl, hg, _⟩
    · cases hi
    · injection hi with hi; rw [← hi]; exact (Array.getElem?_eq_some_iff.1 hg).1
  rcases hat with ⟨h1, h2⟩ | ⟨g, h1, h2, h3⟩
  · have hk2 := Keep.of_grown h2
    rcases h.at_ with h4 | ⟨_, g, h4, h5⟩
    · exact ⟨hK.trans hk2 (fun i _ hy => by rw [← h4]; exact hy), hr', .inl (h1.trans h4)⟩
    · refine ⟨hK.trans hk2 (fun i hi hy => ?_), hr', .inr ⟨(hM.keep (Keep.of_below hb (X := fun _ => False)) (fun _ _ h => h)).keep hk2 (fun i hi e => ?_), g, h1.trans h4, h5⟩⟩
      · rw [h4] at hy; injection hy with hy; omega
      · rw [h4] at e; injection e with e; have := hvl i hi; omega
  · have hk2 := Keep.of_grown h3
    exact ⟨hK.trans hk2 (fun i _ hy => by cases hy), hr', .inr ⟨(hM.keep (Keep.of_below hb (X := fun _ => False)) (fun _ _ h => h)).keep hk2 (fun i hi e => by cases e), g, h1, by omega⟩⟩

end Go.Proofs.YtfiljgkcipnghaaGreatDoor.X
set_option linter.unusedVariables false
set_option linter.unusedSimpArgs false
namespace Go.Proofs.YtfiljgkcipnghaaGreatDoor.X
open Go.RowKit
theorem Marked.set {w : World} {g n cap k : Nat} {m : Int} {xs : List Value} (h : Marked w (.slice (some ⟨g, 0, none⟩) n cap) k m) (hr : RW w 3 1 (.slice (some ⟨g, 0, none⟩) n cap) n xs) (hk : k < n) : Marked (w.setCell ⟨g, k, none⟩ (.int .i64 m)) (.slice (some ⟨g, 0, none⟩) n cap) (k + 1) m := fun j hj => by
  refine ⟨g, n, cap, rfl, ?_⟩
  rcases hr.2 with ⟨h3, _⟩ | ⟨g', cap', cur, h3, h4, h5, h6, h7, h8⟩
  · cases h3
  · injection h3 with e1 _ e3
    injection e1 with e1
    injection e1 with e1
    subst e1 e3
    rw [Lib.cell_of_heap (heap_setCell_same _ _ _ _ _ _ h4)]
    by_cases e : j = k
    · subst e
      simp [show j < cur.size by omega]
    · obtain ⟨g', n', c', e', h1⟩ := h j (by omega)
      injection e' with e'
      injection e' with e'
      injection e' with e'
      subst e'
      rw [Lib.cell_of_heap h4] at h1
      simp [show k ≠ j by omega, h1]
set_option maxHeartbeats 4000000 in
set_option maxRecDepth 100000 in
theorem wipe_int (v : Value) (n : Nat) (xs : List Value) (m : Int) (w : World) (h : RW w 3 1 v n xs) (hn : n ≤ 1000000) :
    Calls Tryz.prog 19 #[v, .int .i64 m] w fun e w' => e = .returned (.tuple #[]) ∧ Keep (fun k => v.ownBlock = some k) w w' ∧ Marked w' v n m := by
  obtain ⟨a, cap, rfl, hcn, hcm⟩ := h.shape
  have HR := Lib.hid h
  clear h
  simp only [maxLen] at hcm
  go_enter Tryz.func19, Tryz.ntmps19
  go_wp2_with fail
  go_loopw [9] (fun i wr => ∃ k : Nat, k ≤ n ∧ i = .int .i64 k ∧ Hid (WB1 w wr 3 1 (.slice a n cap) n) ∧ Hid (Marked wr (.slice a n cap) k m)) (fun i _ => n - (intOf i).toNat)
  case atStart => exact ⟨0, by omega, rfl, Lib.hid ⟨Keep.refl _ _, _, HR.out⟩, Lib.hid (fun j hj => by omega)⟩
  case round =>
    obtain ⟨k, hk, rfl, HB, HM⟩ := hrel
    by_cases hlt : k < n
    · have hI : (k : Int) < (n : Int) := by omega
      obtain ⟨xs1, hr1⟩ := HB.out.row
      obtain ⟨g, cap', e, hgz, hfz, hc⟩ := hr1.cells (by omega)
      injection e with e1 _ e3
      subst e1 e3
      have H1 := Lib.hid hr1
      obtain ⟨u, _, hcu⟩ := hc k (by omega)
      clear hr1 hc
      go_wp2_with fail
      all_goals
        go_roundw
        case rel => exact ⟨k + 1, by omega, by go_num, Lib.hid (HB.out.set _ _), Lib.hid (HM.out.set H1.out hlt)⟩
        case measure => simp [intOf]; omega
    · obtain rfl : k = n := by omega
      have hI : ¬ (k : Int) < (k : Int) := by omega
      have h0 : WB2 w wr (.slice a k cap) k m 0 (.slice a k cap) := ⟨HB.out.keep, by
        obtain ⟨xs1, hr1⟩ := HB.out.row
        have e : xs1 = List.replicate (k + 0) (.int .i64 m) := by
          refine List.ext_getElem? fun j => ?_
          by_cases hj : j < k
          · obtain ⟨g, cap', e, _, _, hc⟩ := hr1.cells (by omega)
            obtain ⟨u, hu, hcu⟩ := hc j (by omega)
            obtain ⟨g', n', c', e', h1⟩ := HM.out j hj
            rw [e] at e'
            injection e' with e'
            injection e' with e'
            injection e' with e'
            subst e'
            rw [hu, List.getElem?_replicate, if_pos (by omega), ← hcu, h1]
          · have hl : xs1.length = k := by have := hr1.1; omega
            rw [List.getElem?_eq_none (by omega), List.getElem?_eq_none (by simp; omega)]
        rw [← e]
        exact hr1, .inl rfl⟩
      have H0 := Lib.hid h0
      clear h0
      go_wp2_with fail
      go_loopw [5, 6] (fun v5 i wq => ∃ j : Nat, j ≤ 80 ∧ i = .int .i64 j ∧ Hid (WB2 w wq (.slice a k cap) k m j v5)) (fun _ i _ => 80 - (intOf i).toNat)
      case atStart => exact ⟨0, by omega, rfl, H0⟩
      case round =>
        obtain ⟨j, hj, rfl, HQ⟩ := hrel
        by_cases hlt2 : j < 80
        · have hJ : (j : Int) < 80 := by omega
          go_wp2_with (at_builtin; go_loud (refine app_rw rfl (.tmp 22) (.tmp 24) 26 3 rfl _ (.int .i64 0) 1 8 Tryz.underlying26 (info_parts infoInt).choose_spec.1 (info_parts infoInt).choose_spec.2.1 (info_parts infoInt).choose_spec.2.2.1 (info_parts infoInt).choose_spec.2.2.2 rfl (by omega) (by omega) _ (k + j) _ #[.int .i64 m] rfl (by simp; rfl) rfl rfl HQ.out.row (by omega) ?_; intro v6 w1 hr6 hat6; have S6 := Lib.hid (HQ.out.step HR.out ((Below.refl _ _).alloc (Nat.le_refl _) _) hr6 hat6); clear hr6 hat6))
          go_roundw
          case rel => exact ⟨j + 1, by omega, by go_num, S6⟩
          case measure => simp [intOf]; omega
        · obtain rfl : j = 80 := by omega
          have hJ : ¬ ((80 : Nat) : Int) < 80 := by omega
          go_wp2_with fail
          go_end0
          exact ⟨rfl, HQ.out.keep, HQ.out.marks HR.out⟩

end Go.Proofs.YtfiljgkcipnghaaGreatDoor.X
set_option linter.unusedVariables false
set_option linter.unusedSimpArgs false
namespace Go.Proofs.YtfiljgkcipnghaaGreatDoor.X
open Go.RowKit
/-- The list of parts while it is grown. -/
structure WB3 (w wr : World) (v : Value) (n k : Nat) (v5 : Value) : Prop where
  keep : Keep (fun k => v.ownBlock = some k) w wr
  row : ∃ xs, RW wr 49 4 v5 (n + k) xs
  at_ : v5.ownBlock = v.ownBlock ∨ ∃ g, v5.ownBlock = some g ∧ w.heap.size ≤ g
theorem WB3.step {w wr W w1 : World} {v v5 v6 : Value} {n k : Nat} {ys : List Value} (h : WB3 w wr v n k v5) (hb : Below wr.heap.size wr W) (hr : RW w1 49 4 v6 (n + k + 1) ys)
    (hat : (v6.ownBlock = v5.ownBlock ∧ W.grownBy w1 v5.ownBlock) ∨ ∃ g, v6.ownBlock = some g ∧ W.heap.size ≤ g ∧ W.grownBy w1 none) : WB3 w w1 v n (k + 1) v6 := by
  have hK := h.keep.below hb
  have hz := hK.size
  rcases hat with ⟨h1, h2⟩ | ⟨g, h1, h2, h3⟩
  · have hk2 := Keep.of_grown h2
    rcases h.at_ with h4 | ⟨g, h4, h5⟩
    · exact ⟨hK.trans hk2 (fun i _ hy => by rw [← h4]; exact hy), ⟨_, hr⟩, .inl (h1.trans h4)⟩
    · exact ⟨hK.trans hk2 (fun i hi hy => by rw [h4] at hy; injection hy with hy; omega), ⟨_, hr⟩, .inr ⟨g, h1.trans h4, h5⟩⟩
  · exact ⟨hK.trans (Keep.of_grown h3) (fun i _ hy => by cases hy), ⟨_, hr⟩, .inr ⟨g, h1, by omega⟩⟩
abbrev mkC : Array Value := #[.int .i64 99, .string ⟨#[63]⟩, .int .i64 0, .slice none 0 0]
theorem box_in {w wr : World} {v : Value} {n : Nat} {xs : List Value} (h : RW w 49 4 v n xs) (hk : Keep (fun k => v.ownBlock = some k) (w.alloc (.cells mkC 49)) wr) : wr.heap[w.heap.size]? = some (.cells mkC 49 (0, 0)) := by
  refine (hk.block _ (by simp) fun e => ?_).trans (heap_alloc_new _ _)
  rcases h.2 with ⟨rfl, _⟩ | ⟨g, cap, cur, rfl, h1, _⟩
  · cases e
  · have e1 : g = w.heap.size := by injection e
    have := (Array.getElem?_eq_some_iff.1 h1).1
    omega
set_option maxHeartbeats 4000000 in
set_option maxRecDepth 100000 in
theorem wipe_parts (v : Value) (n : Nat) (xs : List Value) (w : World) (h : RW w 49 4 v n xs) (hn : n ≤ 1000000) :
    Calls Tryz.prog 20 #[v, .agg mkC] w fun e w' => e = .returned (.tuple #[]) ∧ Keep (fun k => v.ownBlock = some k) w w' := by
  obtain ⟨a, cap, rfl, hcn, hcm⟩ := h.shape
  have HR := Lib.hid h
  have HA := Lib.hid (h.below ((Below.refl _ _).alloc (Nat.le_refl _) (.cells mkC 49)))
  clear h
  simp only [maxLen] at hcm
  go_enter Tryz.func20, Tryz.ntmps20
  go_wp2_with fail
  go_loopw [9] (fun i wr => ∃ k : Nat, k ≤ n ∧ i = .int .i64 k ∧ Hid (WB1 (w.alloc (.cells mkC 49)) wr 49 4 (.slice a n cap) n)) (fun i _ => n - (intOf i).toNat)
  case atStart => exact ⟨0, by omega, rfl, Lib.hid ⟨Keep.refl _ _, _, HA.out⟩⟩
  case round =>
    obtain ⟨k, hk, rfl, HB⟩ := hrel
    have hbx := box_in HR.out HB.out.keep
    have b0 : wr.cell? ⟨w.heap.size, 0, none⟩ = some (.int .i64 99) := (Lib.cell_of_heap hbx _).trans rfl
    have b1 : wr.cell? ⟨w.heap.size, 1, none⟩ = some (.string ⟨#[63]⟩) := (Lib.cell_of_heap hbx _).trans rfl
    have b2 : wr.cell? ⟨w.heap.size, 2, none⟩ = some (.int .i64 0) := (Lib.cell_of_heap hbx _).trans rfl
    have b3 : wr.cell? ⟨w.heap.size, 3, none⟩ = some (.slice none 0 0) := (Lib.cell_of_heap hbx _).trans rfl
    have hbz : w.heap.size < wr.heap.size := World.block_lt_of_cell? _ _ b0
    clear hbx
    by_cases hlt : k < n
    · have hI : (k : Int) < (n : Int) := by omega
      obtain ⟨xs1, hr1⟩ := HB.out.row
      obtain ⟨g, cap', e, hgz, hfz, hc⟩ := hr1.cells (by omega)
      injection e with e1 _ e3
      subst e1 e3
      obtain ⟨u0, _, c0⟩ := hc (k * 4) (by omega)
      obtain ⟨u1, _, c1⟩ := hc (k * 4 + 1) (by omega)
      obtain ⟨u2, _, c2⟩ := hc (k * 4 + 2) (by omega)
      obtain ⟨u3, _, c3⟩ := hc (k * 4 + 3) (by omega)
      clear hr1 hc
      go_wp2_with fail
      all_goals
        go_roundw
        case rel => exact ⟨k + 1, by omega, by go_num, Lib.hid ((((HB.out.set _ _).set _ _).set _ _).set _ _)⟩
        case measure => simp [intOf]; omega
    · obtain rfl : k = n := by omega
      have hI : ¬ (k : Int) < (k : Int) := by omega
      have H0 : Hid (WB3 (w.alloc (.cells mkC 49)) wr (.slice a k cap) k 0 (.slice a k cap)) := Lib.hid ⟨HB.out.keep, HB.out.row, .inl rfl⟩
      go_wp2_with fail
      go_loopw [5, 6] (fun v5 i wq => ∃ j : Nat, j ≤ 80 ∧ i = .int .i64 j ∧ Hid (WB3 (w.alloc (.cells mkC 49)) wq (.slice a k cap) k j v5)) (fun _ i _ => 80 - (intOf i).toNat)
      case atStart => exact ⟨0, by omega, rfl, H0⟩
      case round =>
        obtain ⟨j, hj, rfl, HQ⟩ := hrel
        have hbx := box_in HR.out HQ.out.keep
        have b0 : wr.cell? ⟨w.heap.size, 0, none⟩ = some (.int .i64 99) := (Lib.cell_of_heap hbx _).trans rfl
        have b1 : wr.cell? ⟨w.heap.size, 1, none⟩ = some (.string ⟨#[63]⟩) := (Lib.cell_of_heap hbx _).trans rfl
        have b2 : wr.cell? ⟨w.heap.size, 2, none⟩ = some (.int .i64 0) := (Lib.cell_of_heap hbx _).trans rfl
        have b3 : wr.cell? ⟨w.heap.size, 3, none⟩ = some (.slice none 0 0) := (Lib.cell_of_heap hbx _).trans rfl
        have hbz : w.heap.size < wr.heap.size := World.block_lt_of_cell? _ _ b0
        clear hbx
        by_cases hlt2 : j < 80
        · have hJ : (j : Int) < 80 := by omega
          obtain ⟨ys, hy⟩ := HQ.out.row
          have HY := Lib.hid hy
          clear hy
          go_wp2_with (at_builtin; go_loud (refine app_rw rfl (.tmp 22) (.tmp 24) 23 49 rfl _ (.agg #[.int .i64 0, .string ⟨#[]⟩, .int .i64 0, .slice none 0 0]) 4 56 Tryz.underlying23 (info_parts infoPart).choose_spec.1 (info_parts infoPart).choose_spec.2.1 (info_parts infoPart).choose_spec.2.2.1 (info_parts infoPart).choose_spec.2.2.2 rfl (by omega) (by omega) _ (k + j) _ mkC rfl (by simp; exact ⟨rfl, rfl, rfl, rfl⟩) rfl rfl HY.out (by omega) ?_; intro v6 w1 hr6 hat6; have S6 := Lib.hid (HQ.out.step ((Below.refl _ _).alloc (Nat.le_refl _) _) hr6 hat6); clear hr6 hat6))
          go_roundw
          case rel => exact ⟨j + 1, by omega, by go_num, S6⟩
          case measure => simp [intOf]; omega
        · obtain rfl : j = 80 := by omega
          have hJ : ¬ ((80 : Nat) : Int) < 80 := by omega
          go_wp2_with fail
          go_end0
          exact ⟨rfl, (Keep.of_below ((Below.refl _ _).alloc (Nat.le_refl _) _)).trans HQ.out.keep (fun _ _ h => h)⟩

end Go.Proofs.YtfiljgkcipnghaaGreatDoor.X
set_option linter.unusedVariables false
set_option linter.unusedSimpArgs false
namespace Go.Proofs.YtfiljgkcipnghaaGreatDoor.X
open Go.RowKit
/-- The tree and the offsets; none where the source does not read. -/
def treeP (l : Bs) : List PD × List Nat := match parseL l with
  | .ok x => x
  | .error _ => ([], [])
theorem treeP_len (l : Bs) : (treeP l).1.length ≤ 1000 ∧ (∀ p ∈ (treeP l).1, p.kids.length ≤ 1000000) ∧ (treeP l).2.length = (treeP l).1.length := by
  unfold treeP
  cases h : parseL l with
  | error f => exact ⟨by simp, by simp, rfl⟩
  | ok x => exact either_lenR (ps := x.1) (offs := x.2) h
theorem treeNil' (w : World) (base : Nat) : TreeAt w base (.slice none 0 0) (.slice none 0 0) [] [] [] :=
  ⟨⟨rfl, .inl ⟨rfl, rfl⟩⟩, ⟨rfl, .inl ⟨rfl, rfl⟩⟩, rfl, fun i h => absurd h (Nat.not_lt_zero _), by simp [Value.ownBlock]⟩
theorem refNil' (w : World) (base : Nat) : RefAt w base (.slice none 0 0) (.slice none 0 0) [] [] [] :=
  ⟨⟨rfl, .inl ⟨rfl, rfl⟩⟩, ⟨rfl, .inl ⟨rfl, rfl⟩⟩, rfl, fun i h => absurd h (Nat.not_lt_zero _)⟩
theorem parse_t (s : ByteArray) (w : World) (hs : s.size ≤ 9223372036854775807) (hL : LW w) : Calls Tryz.prog 10 #[.string s] w fun e w' => Below w.heap.size w w' ∧
    ∃ av vo kv er, e = .returned (.tuple #[.agg #[.slice av (treeP s.data.toList).1.length (treeP s.data.toList).1.length], vo, er]) ∧ TreeAt w' w.heap.size (.slice av (treeP s.data.toList).1.length (treeP s.data.toList).1.length) vo kv (treeP s.data.toList).1 (treeP s.data.toList).2 := by
  refine (parse_c s w hs hL).mono fun e w' h => ?_
  obtain ⟨hB, h⟩ := h
  refine ⟨hB, ?_⟩
  unfold treeP
  cases hp : parseL s.data.toList with
  | error f =>
    rw [hp] at h
    obtain ⟨b, rfl, _⟩ := h
    exact ⟨none, _, [], _, rfl, treeNil' _ _⟩
  | ok x =>
    obtain ⟨ps, offs⟩ := x
    rw [hp] at h
    obtain ⟨vp, vo, kv, rfl, hT⟩ := h
    obtain ⟨av, rfl⟩ := hT.parts.shp
    exact ⟨av, vo, kv, _, rfl, hT⟩
theorem ref_t (s : ByteArray) (w : World) (hs : s.size ≤ 140737488355328) : Calls Tryz.prog 16 #[.string s] w fun e w' => Below w.heap.size w w' ∧
    ∃ av cp vo kv c a, e = .returned (.tuple #[.agg #[.slice av (treeP s.data.toList).1.length cp], vo, .agg (H.fcells c a ⟨#[]⟩)]) ∧ RefAt w' w.heap.size (.slice av (treeP s.data.toList).1.length cp) vo kv (treeP s.data.toList).1 (treeP s.data.toList).2 := by
  refine (rp_any s w (by omega)).mono fun e w' h => ?_
  obtain ⟨hB, h⟩ := h
  refine ⟨hB, ?_⟩
  unfold treeP
  cases hp : parseL s.data.toList with
  | error f =>
    rw [hp] at h
    exact ⟨none, 0, _, [], _, _, h, refNil' _ _⟩
  | ok x =>
    obtain ⟨ps, offs⟩ := x
    rw [hp] at h
    obtain ⟨vp, vo, kv, rfl, hT⟩ := h
    obtain ⟨av, cp, rfl⟩ := own_shape hT.parts
    exact ⟨av, cp, vo, kv, _, _, rfl, hT⟩
theorem RowIn.lims {w : World} {base e sz n : Nat} {v : Value} {xs : List Value} (h : RowIn w base e sz v n xs) : ∀ k, v.ownBlock = some k → base ≤ k ∧ k < w.heap.size := fun k hk => by
  rcases h.at_ with ⟨rfl, _⟩ | ⟨g, cur, rfl, h2, h3, _⟩
  · cases hk
  · have e : g = k := by injection hk
    subst e
    exact ⟨h2, (Array.getElem?_eq_some_iff.1 h3).1⟩
theorem TreeAt.kid_lims {w : World} {base : Nat} {vp vo : Value} {kv : List Value} {ps : List PD} {offs : List Nat} (h : TreeAt w base vp vo kv ps offs) (i : Nat) (hi : i < ps.length) : ∀ k, (kv.getD i undef).ownBlock = some k → base ≤ k ∧ k < w.heap.size := fun k hk => (h.kids i hi).lt k hk
theorem RowIn.keep {w w' : World} {base e sz n : Nat} {v : Value} {xs : List Value} {X : Nat → Prop} (h : RowIn w base e sz v n xs) (hk : Keep X w w') (hx : ∀ k, v.ownBlock = some k → ¬ X k) : RowIn w' base e sz v n xs := by
  refine ⟨h.len, ?_⟩
  rcases h.at_ with h1 | ⟨g, cur, rfl, h2, h3, h4⟩
  · exact .inl h1
  · exact .inr ⟨g, cur, rfl, h2, (hk.block g (Array.getElem?_eq_some_iff.1 h3).1 (hx g rfl)).trans h3, h4⟩
theorem own_keep {w w' : World} {base e sz n : Nat} {v : Value} {xs : List Value} {X : Nat → Prop} (h : w.ownsRow base e sz v n xs) (hk : Keep X w w') (hx : ∀ k, v.ownBlock = some k → ¬ X k) : w'.ownsRow base e sz v n xs := by
  refine ⟨h.1, ?_⟩
  rcases h.2 with h1 | ⟨g, cap, cur, rfl, h2, h3, h4⟩
  · exact .inl h1
  · exact .inr ⟨g, cap, cur, rfl, h2, (hk.block g (Array.getElem?_eq_some_iff.1 h3).1 (hx g rfl)).trans h3, h4⟩
theorem TreeAt.keep {w w' : World} {base : Nat} {vp vo : Value} {kv : List Value} {ps : List PD} {offs : List Nat} {X : Nat → Prop} (h : TreeAt w base vp vo kv ps offs) (hk : Keep X w w') (hx : ∀ k, X k → k < base) : TreeAt w' base vp vo kv ps offs :=
  ⟨h.parts.keep hk (fun k e hx' => by have := (h.parts.lims k e).1; have := hx k hx'; omega), h.offs.keep hk (fun k e hx' => by have := (h.offs.lims k e).1; have := hx k hx'; omega), h.klen,
   fun i hi => own_keep (h.kids i hi) hk (fun k e hx' => by have := (h.kid_lims i hi k e).1; have := hx k hx'; omega), h.apart⟩
theorem RefAt.keep {w w' : World} {base : Nat} {vp vo : Value} {kv : List Value} {ps : List PD} {offs : List Nat} {X : Nat → Prop} (h : RefAt w base vp vo kv ps offs) (hk : Keep X w w') (hx : ∀ k, X k → k < base) : RefAt w' base vp vo kv ps offs :=
  ⟨own_keep h.parts hk (fun k e hx' => by have := (h.parts.lt k e).1; have := hx k hx'; omega), own_keep h.offs hk (fun k e hx' => by have := (h.offs.lt k e).1; have := hx k hx'; omega), h.klen,
   fun i hi => own_keep (h.kids i hi) hk (fun k e hx' => by have := ((h.kids i hi).lt k e).1; have := hx k hx'; omega)⟩
theorem IntsAt.keep {w w' : World} {v : Value} {xs : List Int} {X : Nat → Prop} (h : IntsAt w v xs) (hk : Keep X w w') (hx : ∀ k, v.ownBlock = some k → ¬ X k) : IntsAt w' v xs := by
  rcases h with h | ⟨g, o, cap, rfl, h2, h3⟩
  · exact .inl h
  · exact .inr ⟨g, o, cap, rfl, Nat.lt_of_lt_of_le h2 hk.size, fun k hk' => hk.cell (h3 k hk') (hx g rfl)⟩
theorem apart_all {w : World} {base : Nat} {vp vo : Value} {kv : List Value} {ps : List PD} {offs : List Nat} (h : TreeAt w base vp vo kv ps offs) :
    (∀ k, vp.ownBlock = some k → vo.ownBlock ≠ some k) ∧ (∀ i, i < ps.length → ∀ k, (kv.getD i undef).ownBlock = some k → vp.ownBlock ≠ some k ∧ vo.ownBlock ≠ some k ∧ ∀ j, j < i → (kv.getD j undef).ownBlock ≠ some k) := by
  have ha := h.apart
  rw [List.pairwise_cons, List.pairwise_cons] at ha
  obtain ⟨h1, h2, h3⟩ := ha
  have hmem : ∀ i, i < ps.length → (kv.getD i undef).ownBlock ∈ kv.map Value.ownBlock := fun i hi => by
    have hl : i < kv.length := by rw [h.klen]; exact hi
    rw [List.getD_eq_getElem?_getD, List.getElem?_eq_getElem hl]
    exact List.mem_map.2 ⟨_, List.getElem_mem hl, rfl⟩
  refine ⟨fun k hk e => ?_, fun i hi k hk => ⟨fun e => ?_, fun e => ?_, fun j hj e => ?_⟩⟩
  · rcases h1 _ (List.mem_cons_self) with e1 | e1
    · rw [hk] at e1; cases e1
    · exact e1 (hk.trans e.symm)
  · rcases h1 _ (List.mem_cons_of_mem _ (hmem i hi)) with e1 | e1
    · rw [e] at e1; cases e1
    · exact e1 (e.trans hk.symm)
  · rcases h2 _ (hmem i hi) with e1 | e1
    · rw [e] at e1; cases e1
    · exact e1 (e.trans hk.symm)
  · have hl : i < kv.length := by rw [h.klen]; exact hi
    have hlj : j < kv.length := by omega
    have h4 := List.pairwise_iff_getElem.1 h3 j i (by simpa using hlj) (by simpa using hl) hj
    simp only [List.getElem_map] at h4
    have gj : kv.getD j undef = kv[j] := by rw [List.getD_eq_getElem?_getD, List.getElem?_eq_getElem hlj]; rfl
    have gi : kv.getD i undef = kv[i] := by rw [List.getD_eq_getElem?_getD, List.getElem?_eq_getElem hl]; rfl
    rw [gj] at e
    rw [gi] at hk
    rcases h4 with e1 | e1
    · rw [e] at e1; cases e1
    · exact e1 (e.trans hk.symm)
/-- Where all lies. -/
structure Mem where
  ga : Nat
  gb : Nat
  gc : Nat
  gw : Nat
  gt : Nat
  va : Option Addr
  vb : Option Addr
  vc : Option Addr
  vw : Option Addr
  vt : Option Addr
  cw : Nat
  ct : Nat
  oa : Value
  ob : Value
  oc : Value
  ow : Value
  ot : Value
  ka : List Value
  kb : List Value
  kc : List Value
  kw : List Value
  kt : List Value
  la : Nat
  lb : Nat
  lc : Nat
  lw : Nat
  lt : Nat
def XA (M : Mem) (k : Nat) : Prop := M.la ≤ k ∧ k < M.ga
/-- All but the first answer. -/
structure SR (w0 : World) (M : Mem) (ps pc : List PD) (os oc : List Nat) (w : World) : Prop where
  bel : Below w0.heap.size w0 w
  ca : w.cell? ⟨M.ga, 0, none⟩ = some (.slice M.va ps.length ps.length)
  cb : w.cell? ⟨M.gb, 0, none⟩ = some (.slice M.vb ps.length ps.length)
  cc : w.cell? ⟨M.gc, 0, none⟩ = some (.slice M.vc pc.length pc.length)
  cw : w.cell? ⟨M.gw, 0, none⟩ = some (.slice M.vw ps.length M.cw)
  ct : w.cell? ⟨M.gt, 0, none⟩ = some (.slice M.vt pc.length M.ct)
  tb : TreeAt w M.lb (.slice M.vb ps.length ps.length) M.ob M.kb ps os
  tc : TreeAt w M.lc (.slice M.vc pc.length pc.length) M.oc M.kc pc oc
  tw : RefAt w M.lw (.slice M.vw ps.length M.cw) M.ow M.kw ps os
  tt : RefAt w M.lt (.slice M.vt pc.length M.ct) M.ot M.kt pc oc
  o0 : w0.heap.size ≤ M.la
  o1 : M.la ≤ M.ga
  o2 : M.ga < M.lb
  o3 : M.lb ≤ M.gb
  o4 : M.gb < M.lc
  o5 : M.lc ≤ M.gc
  o6 : M.gc < M.lw
  o7 : M.lw ≤ M.gw
  o8 : M.gw < M.lt
  o9 : M.lt ≤ M.gt
  lb : ∀ i, i < ps.length → ∀ k, (M.kb.getD i undef).ownBlock = some k → k < M.gb
theorem SR.keep {w0 : World} {M : Mem} {ps pc : List PD} {os oc : List Nat} {w w' : World} (h : SR w0 M ps pc os oc w) (hk : Keep (XA M) w w') : SR w0 M ps pc os oc w' := by
  obtain ⟨b, c1, c2, c3, c4, c5, t1, t2, t3, t4, o0, o1, o2, o3, o4, o5, o6, o7, o8, o9, l1⟩ := h
  have hz := World.block_lt_of_cell? _ _ c1
  have hz' : M.ga < w.heap.size := hz
  refine ⟨hk.to_below b (by omega) (fun k hx => by have := hx.1; omega), ?_, ?_, ?_, ?_, ?_, ?_, ?_, ?_, ?_, o0, o1, o2, o3, o4, o5, o6, o7, o8, o9, l1⟩
  · exact hk.cell c1 (fun hx => by have := hx.2; omega)
  · exact hk.cell c2 (fun hx => by have := hx.2; omega)
  · exact hk.cell c3 (fun hx => by have := hx.2; omega)
  · exact hk.cell c4 (fun hx => by have := hx.2; omega)
  · exact hk.cell c5 (fun hx => by have := hx.2; omega)
  · exact t1.keep hk (fun k hx => by have := hx.2; omega)
  · exact t2.keep hk (fun k hx => by have := hx.2; omega)
  · exact t3.keep hk (fun k hx => by have := hx.2; omega)
  · exact t4.keep hk (fun k hx => by have := hx.2; omega)
theorem SR.below {w0 : World} {M : Mem} {ps pc : List PD} {os oc : List Nat} {w w' : World} (h : SR w0 M ps pc os oc w) (hb : Below w.heap.size w w') : SR w0 M ps pc os oc w' := h.keep (Keep.of_below hb)
/-- All, the first answer too. -/
structure SM (w0 : World) (M : Mem) (ps pc : List PD) (os oc : List Nat) (w : World) : Prop where
  rest : SR w0 M ps pc os oc w
  ta : TreeAt w M.la (.slice M.va ps.length ps.length) M.oa M.ka ps os
  pa : ∀ k, (Value.slice M.va ps.length ps.length).ownBlock = some k → k < M.ga
  qa : ∀ k, M.oa.ownBlock = some k → k < M.ga
  ra : ∀ i, i < ps.length → ∀ k, (M.ka.getD i undef).ownBlock = some k → k < M.ga
/-- The first answer's kids, as far as i, are written over. -/
def XK (M : Mem) (i : Nat) (k : Nat) : Prop := ∃ j, j < i ∧ (M.ka.getD j undef).ownBlock = some k
structure P1 (w0 : World) (M : Mem) (ps pc : List PD) (os oc : List Nat) (W : World) (i : Nat) (wr : World) : Prop where
  sm : SM w0 M ps pc os oc W
  keep : Keep (XK M i) W wr
theorem P1.xa {w0 : World} {M : Mem} {ps pc : List PD} {os oc : List Nat} {W : World} {i : Nat} {wr : World} (h : P1 w0 M ps pc os oc W i wr) (hi : i ≤ ps.length) : Keep (XA M) W wr :=
  h.keep.mono fun k _ hx => by
    obtain ⟨j, hj, e⟩ := hx
    exact ⟨(h.sm.ta.kid_lims j (by omega) k e).1, h.sm.ra j (by omega) k e⟩
theorem P1.sr {w0 : World} {M : Mem} {ps pc : List PD} {os oc : List Nat} {W : World} {i : Nat} {wr : World} (h : P1 w0 M ps pc os oc W i wr) (hi : i ≤ ps.length) : SR w0 M ps pc os oc wr := h.sm.rest.keep (h.xa hi)
/-- The next part, and its row of kids. -/
theorem P1.part {w0 : World} {M : Mem} {ps pc : List PD} {os oc : List Nat} {W : World} {i : Nat} {wr : World} (h : P1 w0 M ps pc os oc W i wr) (hi : i < ps.length) :
    ∃ g a c, M.va = some ⟨g, 0, none⟩ ∧ wr.cell? ⟨g, i * 4 + 3, none⟩ = some (.slice a ps[i].kids.length c) ∧ M.ka.getD i undef = .slice a ps[i].kids.length c ∧ RW wr 3 1 (.slice a ps[i].kids.length c) ps[i].kids.length (ps[i].kids.map fun k => Value.int .i64 (k : Nat)) := by
  obtain ⟨g, a, c, h1, h2, h3, _, _, _, h4, _⟩ := h.sm.ta.part hi
  have e : M.va = some ⟨g, 0, none⟩ := by injection h1
  have hr := RW.of_own (h.sm.ta.kids i hi)
  obtain ⟨a1, a2⟩ := apart_all h.sm.ta
  refine ⟨g, a, c, e, h.keep.cell h4 (fun hx => ?_), h3, ?_⟩
  · obtain ⟨j, hj, e2⟩ := hx
    exact (a2 j (by omega) g e2).1 (by rw [e]; rfl)
  · rw [← h3]
    exact hr.keep h.keep fun k hk hx => by
      obtain ⟨j, hj, e2⟩ := hx
      exact (a2 i hi k hk).2.2 j hj e2
theorem P1.step {w0 : World} {M : Mem} {ps pc : List PD} {os oc : List Nat} {W : World} {i : Nat} {wr w1 : World} {v : Value} (h : P1 w0 M ps pc os oc W i wr) (hv : M.ka.getD i undef = v) (hk : Keep (fun k => v.ownBlock = some k) wr w1) : P1 w0 M ps pc os oc W (i + 1) w1 :=
  ⟨h.sm, (h.keep.mono fun k _ ⟨j, hj, e⟩ => ⟨j, by omega, e⟩).trans hk fun k _ e => ⟨i, by omega, by rw [hv]; exact e⟩⟩
theorem P1.fin {w0 : World} {M : Mem} {ps pc : List PD} {os oc : List Nat} {W : World} {wr : World} (h : P1 w0 M ps pc os oc W ps.length wr) (hl : ps.length ≤ 1000) (hlo : os.length = ps.length) :
    ∃ xs ys, RW wr 49 4 (.slice M.va ps.length ps.length) ps.length xs ∧ RW wr 3 1 M.oa os.length ys ∧ (∀ k, (Value.slice M.va ps.length ps.length).ownBlock = some k → XA M k ∧ M.oa.ownBlock ≠ some k) ∧ ∀ k, M.oa.ownBlock = some k → XA M k := by
  obtain ⟨a1, a2⟩ := apart_all h.sm.ta
  refine ⟨_, _, (RW.of_in h.sm.ta.parts (by omega)).keep h.keep ?_, (RW.of_in h.sm.ta.offs (by omega)).keep h.keep ?_, fun k hk => ⟨⟨(h.sm.ta.parts.lims k hk).1, h.sm.pa k hk⟩, a1 k hk⟩, fun k hk => ⟨(h.sm.ta.offs.lims k hk).1, h.sm.qa k hk⟩⟩
  · rintro k hk ⟨j, hj, e⟩
    exact (a2 j hj k e).1 hk
  · rintro k hk ⟨j, hj, e⟩
    exact (a2 j hj k e).2.1 hk
/-- The second answer's kids, as far as i, are written over. -/
def XL (M : Mem) (i : Nat) (k : Nat) : Prop := ∃ j, j < i ∧ (M.kb.getD j undef).ownBlock = some k
structure P5 (w0 : World) (M : Mem) (ps pc : List PD) (os oc : List Nat) (W : World) (i : Nat) (wr : World) : Prop where
  sr : SR w0 M ps pc os oc W
  ile : i ≤ ps.length
  keep : Keep (XL M i) W wr
  marks : ∀ j, j < i → ∀ h : j < ps.length, Marked wr (M.kb.getD j undef) ps[j].kids.length (-1000 - (j : Int))
theorem P5.lim {w0 : World} {M : Mem} {ps pc : List PD} {os oc : List Nat} {W : World} {i : Nat} {wr : World} (h : P5 w0 M ps pc os oc W i wr) : ∀ k, XL M i k → M.lb ≤ k ∧ k < M.gb := fun k ⟨j, hj, e⟩ =>
  have hi := h.ile
  ⟨(h.sr.tb.kid_lims j (by omega) k e).1, h.sr.lb j (by omega) k e⟩
theorem P5.below {w0 : World} {M : Mem} {ps pc : List PD} {os oc : List Nat} {W : World} {i : Nat} {wr w' : World} (h : P5 w0 M ps pc os oc W i wr) (hb : Below wr.heap.size wr w') : P5 w0 M ps pc os oc W i w' :=
  ⟨h.sr, h.ile, h.keep.below hb, fun j hj hl => (h.marks j hj hl).keep (Keep.of_below hb (X := fun _ => False)) (fun _ _ x => x)⟩
theorem P5.out {w0 : World} {M : Mem} {ps pc : List PD} {os oc : List Nat} {W : World} {i : Nat} {wr : World} (h : P5 w0 M ps pc os oc W i wr) : Below w0.heap.size w0 wr := by
  have hz : M.ga < W.heap.size := World.block_lt_of_cell? _ _ h.sr.ca
  have h0 := h.sr.o0
  have h1 := h.sr.o1
  have h2 := h.sr.o2
  exact h.keep.to_below h.sr.bel (by omega) (fun k hx => by have := (h.lim k hx).1; omega)
theorem P5.cb {w0 : World} {M : Mem} {ps pc : List PD} {os oc : List Nat} {W : World} {i : Nat} {wr : World} (h : P5 w0 M ps pc os oc W i wr) : wr.cell? ⟨M.gb, 0, none⟩ = some (.slice M.vb ps.length ps.length) :=
  h.keep.cell h.sr.cb (fun hx => by have := (h.lim _ hx).2; omega)
theorem P5.cw {w0 : World} {M : Mem} {ps pc : List PD} {os oc : List Nat} {W : World} {i : Nat} {wr : World} (h : P5 w0 M ps pc os oc W i wr) : wr.cell? ⟨M.gw, 0, none⟩ = some (.slice M.vw ps.length M.cw) :=
  h.keep.cell h.sr.cw (fun hx => by have := (h.lim _ hx).2; have := h.sr.o4; have := h.sr.o5; have := h.sr.o6; have := h.sr.o7; omega)
theorem P5.part {w0 : World} {M : Mem} {ps pc : List PD} {os oc : List Nat} {W : World} {i : Nat} {wr : World} (h : P5 w0 M ps pc os oc W i wr) {k : Nat} (hk : k < ps.length) :
    ∃ g a c, M.vb = some ⟨g, 0, none⟩ ∧ wr.cell? ⟨g, k * 4 + 3, none⟩ = some (.slice a ps[k].kids.length c) ∧ M.kb.getD k undef = .slice a ps[k].kids.length c := by
  obtain ⟨g, a, c, h1, h2, h3, _, _, _, h4, _⟩ := h.sr.tb.part hk
  have e : M.vb = some ⟨g, 0, none⟩ := by injection h1
  have hi := h.ile
  refine ⟨g, a, c, e, h.keep.cell h4 (fun hx => ?_), h3⟩
  obtain ⟨j, hj, e2⟩ := hx
  exact ((apart_all h.sr.tb).2 j (by omega) g e2).1 (by rw [e]; rfl)
theorem P5.kids {w0 : World} {M : Mem} {ps pc : List PD} {os oc : List Nat} {W : World} {i : Nat} {wr : World} (h : P5 w0 M ps pc os oc W i wr) {k : Nat} (hk : k < ps.length) (hik : i ≤ k) :
    RW wr 3 1 (M.kb.getD k undef) ps[k].kids.length (ps[k].kids.map fun x => Value.int .i64 (x : Nat)) ∧ IntsAt wr (M.kb.getD k undef) (ps[k].kids.map fun x : Nat => (x : Int)) := by
  have hx : ∀ b, (M.kb.getD k undef).ownBlock = some b → ¬ XL M i b := fun b hb ⟨j, hj, e⟩ => ((apart_all h.sr.tb).2 k hk b hb).2.2 j (by omega) e
  exact ⟨(RW.of_own (h.sr.tb.kids k hk)).keep h.keep hx, (kid_ints (h.sr.tb.kids k hk)).keep h.keep hx⟩
theorem P5.want {w0 : World} {M : Mem} {ps pc : List PD} {os oc : List Nat} {W : World} {i : Nat} {wr : World} (h : P5 w0 M ps pc os oc W i wr) {k : Nat} (hk : k < ps.length) :
    ∃ g a c, M.vw = some ⟨g, 0, none⟩ ∧ wr.cell? ⟨g, k * 4 + 3, none⟩ = some (.slice a ps[k].kids.length c) ∧ IntsAt wr (.slice a ps[k].kids.length c) (ps[k].kids.map fun x : Nat => (x : Int)) := by
  have ht := h.sr.tw.keep h.keep (fun k hx => by have := (h.lim k hx).2; have := h.sr.o4; have := h.sr.o5; have := h.sr.o6; omega)
  obtain ⟨g, a, c, h1, h2, h3, _, _, _, h4, h5⟩ := ht.part hk
  exact ⟨g, a, c, by injection h1, h4, h5⟩
theorem P5.step {w0 : World} {M : Mem} {ps pc : List PD} {os oc : List Nat} {W : World} {i : Nat} {wr w1 : World} {v : Value} (h : P5 w0 M ps pc os oc W i wr) (hi : i < ps.length) (hv : M.kb.getD i undef = v) (hk : Keep (fun k => v.ownBlock = some k) wr w1) (hm : Marked w1 v ps[i].kids.length (-1000 - (i : Int))) : P5 w0 M ps pc os oc W (i + 1) w1 := by
  refine ⟨h.sr, hi, (h.keep.mono fun k _ ⟨j, hj, e⟩ => ⟨j, by omega, e⟩).trans hk fun k _ e => ⟨i, by omega, by rw [hv]; exact e⟩, fun j hj hl => ?_⟩
  by_cases e : j = i
  · subst e; rw [hv]; exact hm
  · refine (h.marks j (by omega) hl).keep hk fun k hk' e2 => ?_
    rw [← hv] at e2
    exact ((apart_all h.sr.tb).2 i hi k e2).2.2 j (by omega) hk'
/-- What is read of a row of numbers. -/
theorem IntsAt.at_ {w : World} {a : Option Addr} {n c : Nat} {xs : List Int} (h : IntsAt w (.slice a n c) xs) {j : Nat} (hj : j < n) (hn : n = xs.length) : ∃ g o, a = some ⟨g, o, none⟩ ∧ g < w.heap.size ∧ w.cell? ⟨g, o + j, none⟩ = some (.int .i64 (xs.getD j 0)) := by
  rcases h with ⟨rfl, _⟩ | ⟨g, o, cap, h1, h2, h3⟩
  · simp at hn; omega
  · injection h1 with h1
    refine ⟨g, o, h1, h2, ?_⟩
    have hl : j < xs.length := by omega
    rw [h3 j hl, List.getD_eq_getElem?_getD, List.getElem?_eq_getElem hl]
    rfl
theorem Marked.at_ {w : World} {a : Option Addr} {n c : Nat} {m : Int} (h : Marked w (.slice a n c) n m) {j : Nat} (hj : j < n) : ∃ g, a = some ⟨g, 0, none⟩ ∧ g < w.heap.size ∧ w.cell? ⟨g, j, none⟩ = some (.int .i64 m) := by
  obtain ⟨g, n', c', e, h1⟩ := h j hj
  injection e with e
  exact ⟨g, e, World.block_lt_of_cell? _ _ h1, h1⟩

end Go.Proofs.YtfiljgkcipnghaaGreatDoor.X
set_option linter.unusedVariables false
set_option linter.unusedSimpArgs false
namespace Go.Proofs.YtfiljgkcipnghaaGreatDoor.X
open Go.RowKit
abbrev twoC (w : World) (v : Value) (c a : Int) : World := (w.alloc (.cells #[v] 25)).alloc (.cells (H.fcells c a ⟨#[]⟩) 35)
theorem twoC_below (w : World) (v : Value) (c a : Int) : Below w.heap.size w (twoC w v c a) := ((Below.refl _ _).alloc (Nat.le_refl _) _).alloc (by simp) _
theorem twoC_cell (w : World) (v : Value) (c a : Int) : (twoC w v c a).cell? ⟨w.heap.size, 0, none⟩ = some v := (Lib.cell_of_heap ((Below.heap_alloc _ _ _ (by simp)).trans (heap_alloc_new w _)) _).trans rfl
theorem oneC_below (w : World) (v : Value) : Below w.heap.size w (w.alloc (.cells #[v] 25)) := (Below.refl _ _).alloc (Nat.le_refl _) _
theorem oneC_cell (w : World) (v : Value) : (w.alloc (.cells #[v] 25)).cell? ⟨w.heap.size, 0, none⟩ = some v := (Lib.cell_of_heap (heap_alloc_new w _) _).trans rfl
theorem mem_start {w w1 w2 w3 w4 w5 w6 : World} {ps pc : List PD} {os oc : List Nat} {va vb vc vw vt : Option Addr} {cw ct : Nat} {oa ob oc' ow ot : Value} {ka kb kc kw kt : List Value} {f3 f4 : Int}
    (B1 : Below w.heap.size w w1) (J2 : Below w1.heap.size w1 w2) (J3 : Below w2.heap.size w2 w3) (J4 : Below w3.heap.size w3 w4) (J5 : Below w4.heap.size w4 w5) (J6 : Below w5.heap.size w5 w6)
    (TA : TreeAt w2 w1.heap.size (.slice va ps.length ps.length) oa ka ps os)
    (TB : TreeAt w3 (w2.heap.size + 1) (.slice vb ps.length ps.length) ob kb ps os)
    (TC : TreeAt w4 (w3.heap.size + 1) (.slice vc pc.length pc.length) oc' kc pc oc)
    (TW : RefAt w5 (w4.heap.size + 1) (.slice vw ps.length cw) ow kw ps os)
    (TT : RefAt w6 (w5.heap.size + 2) (.slice vt pc.length ct) ot kt pc oc)
    (ca : w3.cell? ⟨w2.heap.size, 0, none⟩ = some (.slice va ps.length ps.length)) (cb : w4.cell? ⟨w3.heap.size, 0, none⟩ = some (.slice vb ps.length ps.length))
    (cc : w5.cell? ⟨w4.heap.size, 0, none⟩ = some (.slice vc pc.length pc.length)) (cw6 : w6.cell? ⟨w5.heap.size, 0, none⟩ = some (.slice vw ps.length cw)) (hz : w5.heap.size + 2 ≤ w6.heap.size) :
    ∃ W, P1 w ⟨w2.heap.size, w3.heap.size, w4.heap.size, w5.heap.size, w6.heap.size, va, vb, vc, vw, vt, cw, ct, oa, ob, oc', ow, ot, ka, kb, kc, kw, kt, w1.heap.size, w2.heap.size + 1, w3.heap.size + 1, w4.heap.size + 1, w5.heap.size + 2⟩ ps pc os oc W 0 (twoC w6 (.slice vt pc.length ct) f3 f4) := by
  have J7 := twoC_below w6 (.slice vt pc.length ct) f3 f4
  have E6 := J7
  have E5 := J6.trans (E6.mono J6.size)
  have E4 := J5.trans (E5.mono J5.size)
  have E3 := J4.trans (E4.mono J4.size)
  have E2 := J3.trans (E3.mono J3.size)
  have E1 := J2.trans (E2.mono J2.size)
  have z3 : w2.heap.size < w3.heap.size := World.block_lt_of_cell? _ _ ca
  have z4 : w3.heap.size < w4.heap.size := World.block_lt_of_cell? _ _ cb
  have z5 : w4.heap.size < w5.heap.size := World.block_lt_of_cell? _ _ cc
  refine ⟨_, ⟨⟨?_, TA.below E2, fun k hk => (TA.parts.lims k hk).2, fun k hk => (TA.offs.lims k hk).2, fun i hi k hk => (TA.kid_lims i hi k hk).2⟩, Keep.refl _ _⟩⟩
  exact ⟨B1.trans (E1.mono B1.size), cell_b E3 ca, cell_b E4 cb, cell_b E5 cc, cell_b E6 cw6, twoC_cell w6 _ f3 f4, TB.below E3, TC.below E4, TW.below E5, TT.below E6, B1.size, J2.size, Nat.lt_succ_self _, z3, Nat.lt_succ_self _, z4, Nat.lt_succ_self _, z5, show w5.heap.size < w5.heap.size + 2 by omega, hz, fun i hi k hk => (TB.kid_lims i hi k hk).2⟩

end Go.Proofs.YtfiljgkcipnghaaGreatDoor.X
