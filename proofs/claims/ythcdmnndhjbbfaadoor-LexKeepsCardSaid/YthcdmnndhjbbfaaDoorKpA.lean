/-
  Lists of tokens that are written over and grown (LexKeeps). No walk.
-/
import Derived.Test.YthcdmnndhjbbfaaDoorLawScans
import Derived.ArgAppend
set_option linter.unusedVariables false
set_option linter.unusedSimpArgs false
namespace Go.Proofs.YthcdmnndhjbbfaaDoor.X
open Go.RowKit
theorem own_someT {w : World} {base e size n : Nat} {v : Value} {xs : List Value} (h : w.ownsRow base e size v (n + 1) xs) : ∃ g cap, v = .slice (some ⟨g, 0, none⟩) (n + 1) cap := by
  rcases h.2 with ⟨_, h0⟩ | ⟨g, cap, cur, h1, _⟩
  · omega
  · exact ⟨g, cap, h1⟩
/-- Blocks of X alone (and new ones) have changed. -/
structure Keep (X : Nat → Prop) (w w' : World) : Prop where
  os : w'.os = w.os
  tape : w'.tape = w.tape
  output : w'.output = w.output
  size : w.heap.size ≤ w'.heap.size
  block : ∀ k, k < w.heap.size → ¬ X k → w'.heap[k]? = w.heap[k]?
theorem Keep.refl (X : Nat → Prop) (w : World) : Keep X w w := ⟨rfl, rfl, rfl, Nat.le_refl _, fun _ _ _ => rfl⟩
theorem Keep.trans {X Y : Nat → Prop} {a b c : World} (h : Keep X a b) (k : Keep Y b c) (hxy : ∀ i, i < a.heap.size → Y i → X i) : Keep X a c :=
  ⟨k.os.trans h.os, k.tape.trans h.tape, k.output.trans h.output, Nat.le_trans h.size k.size, fun i hi hx => (k.block i (Nat.lt_of_lt_of_le hi h.size) (fun hy => hx (hxy i hi hy))).trans (h.block i hi hx)⟩
theorem Keep.mono {X Y : Nat → Prop} {a b : World} (h : Keep X a b) (hxy : ∀ i, i < a.heap.size → X i → Y i) : Keep Y a b :=
  ⟨h.os, h.tape, h.output, h.size, fun i hi hy => h.block i hi (fun hx => hy (hxy i hi hx))⟩
theorem Keep.of_below {X : Nat → Prop} {a b : World} (h : Below a.heap.size a b) : Keep X a b := ⟨h.os, h.tape, h.output, h.size, fun i hi _ => h.block i hi⟩
theorem Keep.below {X : Nat → Prop} {a b c : World} (h : Keep X a b) (k : Below b.heap.size b c) : Keep X a c := h.trans (Keep.of_below k (X := X)) (fun _ _ hx => hx)
theorem Keep.of_grown {a b : World} {row : Option Nat} (h : a.grownBy b row) : Keep (fun k => row = some k) a b := ⟨h.os, h.tape, h.output, h.size, fun i hi hx => h.block i hi (fun e => hx e.symm)⟩
/-- The world beneath B stays if all of X stands behind B. -/
theorem Keep.to_below {X : Nat → Prop} {w0 a b : World} {B : Nat} (h0 : Below B w0 a) (h : Keep X a b) (hB : B ≤ a.heap.size) (hx : ∀ k, X k → B ≤ k) : Below B w0 b :=
  ⟨h.os.trans h0.os, h.tape.trans h0.tape, h.output.trans h0.output, Nat.le_trans h0.size h.size, fun k hk => (h.block k (by omega) (fun e => by have := hx k e; omega)).trans (h0.block k hk)⟩
theorem Keep.cell {X : Nat → Prop} {a b : World} (h : Keep X a b) {g j : Nat} {v : Value} (hc : a.cell? ⟨g, j, none⟩ = some v) (hx : ¬ X g) : b.cell? ⟨g, j, none⟩ = some v :=
  (World.cell?_of_block (a := ⟨g, j, none⟩) (h.block g (World.block_lt_of_cell? _ _ hc) hx)).trans hc
/-- A row: in its block there is room for all of its capacity. -/
def RW (w : World) (e sz : Nat) (v : Value) (n : Nat) (xs : List Value) : Prop :=
  xs.length = n * sz ∧ ((v = .slice none 0 0 ∧ n = 0) ∨ ∃ g cap cur, v = .slice (some ⟨g, 0, none⟩) n cap ∧ w.heap[g]? = some (.cells cur e (0, 0)) ∧ n ≤ cap ∧ cap ≤ maxLen ∧ cap * sz ≤ cur.size ∧ cur.toList.take (n * sz) = xs)
theorem RW.of_own {w : World} {base e sz n : Nat} {v : Value} {xs : List Value} (h : w.ownsRow base e sz v n xs) : RW w e sz v n xs := by
  refine ⟨h.1, ?_⟩
  rcases h.2 with h1 | ⟨g, cap, cur, h1, h2, h3, h4, h5, h6, h7⟩
  · exact .inl h1
  · exact .inr ⟨g, cap, cur, h1, h3, h4, h5, by omega, h7⟩
theorem RW.keep {w w' : World} {e sz n : Nat} {v : Value} {xs : List Value} {X : Nat → Prop} (h : RW w e sz v n xs) (hk : Keep X w w') (hx : ∀ k, v.ownBlock = some k → ¬ X k) : RW w' e sz v n xs := by
  refine ⟨h.1, ?_⟩
  rcases h.2 with h1 | ⟨g, cap, cur, rfl, h3, h4⟩
  · exact .inl h1
  · exact .inr ⟨g, cap, cur, rfl, (hk.block g (Array.getElem?_eq_some_iff.1 h3).1 (hx g rfl)).trans h3, h4⟩
theorem RW.below {w w' : World} {e sz n : Nat} {v : Value} {xs : List Value} (h : RW w e sz v n xs) (hb : Below w.heap.size w w') : RW w' e sz v n xs := h.keep (Keep.of_below hb (X := fun _ => False)) (fun _ _ h => h)
theorem RW.shape {w : World} {e sz n : Nat} {v : Value} {xs : List Value} (h : RW w e sz v n xs) : ∃ a cap, v = .slice a n cap ∧ n ≤ cap ∧ cap ≤ maxLen := by
  rcases h.2 with ⟨h1, h2⟩ | ⟨g, cap, _, h1, _, h2, h3, _⟩
  · exact ⟨none, 0, by rw [h1, h2], by omega, by simp [maxLen]⟩
  · exact ⟨_, _, h1, h2, h3⟩
/-- append of one element: in place, or to a new row. -/
theorem run_append_rw {w : World} (t ty e : TypeId) (i : TypeInfo) (z : Value) (size bytes : Nat) (ht : Tryd.prog.underlying t = some (.slice e)) (hi : Tryd.prog.info? e = some i) (hz : i.zero = some z)
    (hsize : i.size = size) (hby : i.bytes = bytes) (hzs : z.cells.size = size) (hsz : 0 < size) (hbs : bytes ≤ 1000)
    (v : Value) (n : Nat) (xs : List Value) (h : RW w e size v n xs) (a : Addr) (c : Nat) (news : List Value) (hl : news.length = size) (hnews : ∀ j u, news[j]? = some u → w.cell? (a.add j) = some u) (h1 : ∀ u ∈ news, u.oneCell' = true)
    (hn : n ≤ 1000000000) :
    ∃ v' w', (Builtin.append_ #[t, t] ty #[v, .slice (some a) 1 c]).run Tryd.prog w = .ok v' w' ∧ RW w' e size v' (n + 1) (xs ++ news) ∧
      ((∃ a c, v = .slice a n c ∧ v' = .slice a (n + 1) c ∧ w.grownBy w' v.ownBlock) ∨ ∃ g, v'.ownBlock = some g ∧ w.heap.size ≤ g ∧ w.grownBy w' none) := by
  have hby2 : (n + 1) * bytes ≤ 140737488355328 := Nat.le_trans (Nat.mul_le_mul (show n + 1 ≤ 1000000001 by omega) hbs) (by decide)
  have hml : n + 1 ≤ maxLen := by simp only [maxLen]; omega
  rcases h.2 with ⟨rfl, rfl⟩ | ⟨g, cap, cur, rfl, hg, hnc, hcm, hcs, htake⟩
  · obtain rfl : xs = [] := List.eq_nil_of_length_eq_zero (by simpa using h.1)
    obtain ⟨v', w', hr, hown, hgr, _, hat⟩ := run_append_own_at (P := Tryd.prog) w 0 t ty e i z size bytes ht hi hz hsize hby hzs hsz (.slice none 0 0) 0 [] (World.ownsRow_nil w 0 e size) a 1 c news (by omega) hnews h1 hml hby2 (Nat.zero_le _)
    refine ⟨v', w', hr, RW.of_own hown, .inr ?_⟩
    obtain ⟨g, cap, rfl⟩ := own_someT hown
    rcases hat with e1 | e1
    · cases e1
    · exact ⟨_, e1, Nat.le_refl _, hgr⟩
  · by_cases hroom : n + 1 ≤ cap
    · subst hsize
      have hm : (n + 1) * i.size ≤ cap * i.size := Nat.mul_le_mul_right _ hroom
      have hfit : n * i.size + news.length ≤ cur.size := by rw [hl]; rw [Nat.add_mul] at hm; omega
      have hr := run_append_room (P := Tryd.prog) w t ty e i ht hi g n cap cur hg a 1 c news (by omega) hnews h1 hroom hfit
      refine ⟨_, _, hr, ⟨by rw [List.length_append, h.1, hl, Nat.add_mul]; omega, .inr ⟨g, cap, _, rfl, setRow_heap w g cur _ e _ hg, hroom, hcm, ?_, ?_⟩⟩, .inl ⟨_, _, rfl, rfl, ⟨rfl, rfl, rfl, by simp, fun k _ hk => setRow_other w g k _ (fun e => hk (by simp [Value.ownBlock, e]))⟩⟩⟩
      · simp only [List.size_toArray, List.length_append, List.length_take, List.length_drop, Array.length_toList]
        omega
      · rw [htake, show (n + 1) * i.size = (xs ++ news).length by rw [List.length_append, h.1, hl, Nat.add_mul]; omega]
        exact List.take_left
    · have holds : ∀ j u, xs[j]? = some u → w.cell? ((⟨g, 0, none⟩ : Addr).add j) = some u := fun j u hu => by
        have hadd : (⟨g, 0, none⟩ : Addr).add j = ⟨g, j, none⟩ := by unfold Addr.add; split <;> simp_all
        have hj : j < n * size := by have := (List.getElem?_eq_some_iff.1 hu).1; rw [h.1] at this; exact this
        rw [hadd, Lib.cell_of_heap hg, ← Array.getElem?_toList]
        rw [← htake, List.getElem?_take, if_pos hj] at hu
        exact hu
      obtain ⟨v', w', hr, hown, hgr⟩ := run_append_arg_grows (P := Tryd.prog) w t ty e i z size bytes ht hi hz hsize hby hzs hsz ⟨g, 0, none⟩ n cap xs h.1 holds a 1 c news (by omega) hnews (by omega) hml hby2
      refine ⟨v', w', hr, RW.of_own hown, .inr ?_⟩
      obtain ⟨g', cap', rfl⟩ := own_someT hown
      exact ⟨g', rfl, (hown.lt g' rfl).1, hgr⟩
/-- append of one element that stands in the last block. -/
theorem app_rw {ops : Array Oper} {rest : List Oper} {o : Oper} {a : Act} {Q : Exit → Act → World → Prop} {W : World} (hgd : o.guard = none) (s x : Operand) (t e : TypeId)
    (ho : o.op = .call { callee := .builtin .append, args := #[s, x], argTypes := #[t, t] })
    (i : TypeInfo) (z : Value) (size bytes : Nat) (ht : Tryd.prog.underlying t = some (.slice e)) (hi : Tryd.prog.info? e = some i) (hz : i.zero = some z)
    (hsize : i.size = size) (hby : i.bytes = bytes) (hzs : z.cells.size = size) (hsz : 0 < size) (hbs : bytes ≤ 1000)
    (v : Value) (n : Nat) (xs : List Value) (cs : Array Value) (hcl : cs.size = size) (h1 : ∀ u ∈ cs.toList, u.oneCell' = true) (hs : a.eval s = v) (hx : a.eval x = .slice (some ⟨W.heap.size, 0, none⟩) 1 1)
    (HO : RW W e size v n xs) (hl : n ≤ 1000000000)
    (h : ∀ v1 w1, RW w1 e size v1 (n + 1) (xs ++ cs.toList) → ((∃ a c, v = .slice a n c ∧ v1 = .slice a (n + 1) c ∧ (W.alloc (.cells cs e)).grownBy w1 v.ownBlock) ∨ ∃ g, v1.ownBlock = some g ∧ (W.alloc (.cells cs e)).heap.size ≤ g ∧ (W.alloc (.cells cs e)).grownBy w1 none) → wpList Tryd.prog ops Q rest (a.put o.dst v1) w1) :
    wpList Tryd.prog ops Q (o :: rest) a (W.alloc (.cells cs e)) := by
  obtain ⟨v1, w1, hr, hown, hat⟩ := run_append_rw t o.type e i z size bytes ht hi hz hsize hby hzs hsz hbs v n xs (HO.below ((Below.refl _ _).alloc (Nat.le_refl _) _)) ⟨W.heap.size, 0, none⟩ 1 cs.toList (by simpa using hcl)
    (fun j u hu => World.news_of_block (cs := cs) (t := e) (fr := (0, 0)) (heap_alloc_new W _) j u (by simpa using hu)) h1 hl
  refine wpList_plain hgd fun K hK => ?_
  unfold Oper.wp execOp
  simp only [ho, resolve, invoke, builtin, Sem.run_bind, Sem.run_pure, Result.andThen_ok, List.map_toArray, List.map_cons, List.map_nil, hs, hx, hr]
  exact hK _ _ (h v1 w1 hown hat)

/-- The cells of a list. -/
theorem RW.cells {w : World} {e sz n : Nat} {v : Value} {xs : List Value} (h : RW w e sz v n xs) (hn : 0 < n) : ∃ g cap, v = .slice (some ⟨g, 0, none⟩) n cap ∧ g < w.heap.size ∧ (∀ j, w.frozen? ⟨g, j, none⟩ = false) ∧ ∀ j, j < n * sz → ∃ u, xs[j]? = some u ∧ w.cell? ⟨g, j, none⟩ = some u := by
  rcases h.2 with ⟨_, h2⟩ | ⟨g, cap, cur, h1, h2, h3, h4, h5, h6⟩
  · omega
  · refine ⟨g, cap, h1, (Array.getElem?_eq_some_iff.1 h2).1, fun j => by simp [World.frozen?, h2], fun j hj => ?_⟩
    have hx : j < xs.length := by rw [h.1]; exact hj
    refine ⟨xs[j], List.getElem?_eq_getElem hx, ?_⟩
    rw [Lib.cell_of_heap h2, ← Array.getElem?_toList]
    have e : xs[j]? = cur.toList[j]? := by rw [← h6, List.getElem?_take, if_pos hj]
    rw [← e, List.getElem?_eq_getElem hx]
/-- The first n of a list. -/
theorem RW.shrink {w : World} {e sz n m c : Nat} {a : Option Addr} {ys : List Value} (h : RW w e sz (.slice a m c) m ys) (hn : n ≤ m) : RW w e sz (.slice a n c) n (ys.take (n * sz)) := by
  have hm := Nat.mul_le_mul_right sz hn
  refine ⟨by rw [List.length_take, h.1]; omega, ?_⟩
  rcases h.2 with ⟨h1, h2⟩ | ⟨g, cap, cur, h1, h2, h3, h4, h5, h6⟩
  · obtain rfl : n = 0 := by omega
    injection h1 with e1 _ e3
    subst e1 e3
    exact .inl ⟨rfl, rfl⟩
  · injection h1 with e1 _ e3
    subst e1 e3
    refine .inr ⟨g, c, cur, rfl, h2, by omega, h4, h5, ?_⟩
    rw [← h6, List.take_take, Nat.min_eq_left hm]
/-- A token of a list. -/
def TokC (w : World) (v : Value) (i : Nat) (t : Tk) : Prop := ∃ g n c, v = .slice (some ⟨g, 0, none⟩) n c ∧ ∀ j u, (tokCells t).toList[j]? = some u → w.cell? ⟨g, i * 5 + j, none⟩ = some u
theorem TokC.keep {w w' : World} {v : Value} {i : Nat} {t : Tk} {X : Nat → Prop} (h : TokC w v i t) (hk : Keep X w w') (hx : ∀ b, v.ownBlock = some b → ¬ X b) : TokC w' v i t := by
  obtain ⟨g, n, c, rfl, h1⟩ := h
  exact ⟨g, n, c, rfl, fun j u hu => hk.cell (h1 j u hu) (hx g rfl)⟩
/-- The same cells before and after. -/
theorem TokC.same {w w' : World} {v : Value} {n i : Nat} {t : Tk} {xs : List Value} (h : TokC w v i t) (h0 : RW w 44 5 v n xs) (h1 : RW w' 44 5 v n xs) (hi : i < n) : TokC w' v i t := by
  obtain ⟨g, m, c, rfl, hc⟩ := h
  obtain ⟨g0, c0, e0, _, _, d0⟩ := h0.cells (by omega)
  obtain ⟨g1, c1, e1, _, _, d1⟩ := h1.cells (by omega)
  injection e0 with a1 _ _
  injection a1 with a1
  injection a1 with a1
  injection e1 with b1 _ _
  injection b1 with b1
  injection b1 with b1
  subst a1 b1
  refine ⟨g, m, c, rfl, fun j u hu => ?_⟩
  have hj : j < 5 := (List.getElem?_eq_some_iff.1 hu).1
  obtain ⟨u0, p0, q0⟩ := d0 (i * 5 + j) (by omega)
  obtain ⟨u1, p1, q1⟩ := d1 (i * 5 + j) (by omega)
  have h2 := hc j u hu
  rw [q0] at h2
  rw [q1, ← h2]
  rw [p0] at p1
  exact p1.symm
/-- The token behind the others. -/
theorem TokC.of_rw {w : World} {v : Value} {n : Nat} {t : Tk} {xs : List Value} (h : RW w 44 5 v (n + 1) (xs ++ (tokCells t).toList)) (hl : xs.length = n * 5) : TokC w v n t := by
  obtain ⟨g, c, rfl, _, _, d⟩ := h.cells (by omega)
  refine ⟨g, _, c, rfl, fun j u hu => ?_⟩
  have hj : j < 5 := (List.getElem?_eq_some_iff.1 hu).1
  obtain ⟨u1, p1, q1⟩ := d (n * 5 + j) (by omega)
  rw [List.getElem?_append_right (by omega), show n * 5 + j - xs.length = j by omega, hu] at p1
  rw [q1]
  exact p1.symm

end Go.Proofs.YthcdmnndhjbbfaaDoor.X
