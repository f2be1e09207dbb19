/-
  A tree with room behind its lists, in memory of the law's own (ShowOwn). No walk.
-/
import Derived.Test.YteeojceloljcbaaDoorLawV
import Derived.Test.YteeojceloljcbaaDoorTree
import Derived.Maps.AppendAt
set_option linter.unusedVariables false
set_option linter.unusedSimpArgs false
namespace Go.Proofs.YteeojceloljcbaaDoor.H
open Go.RowKit Go.Proofs.YteeojceloljcbaaDoorW.PrintWords Go.Proofs.YteeojceloljcbaaDoorW.PrintLast Go.Proofs.YteeojceloljcbaaDoor.P
def partC (p : Pt) (v : Value) : List Value := [.int .i64 p.f0, .string p.f1, .int .i64 p.f2, v]
def rowC : List Pt → List Value → List Value
  | p :: ps, v :: vs => partC p v ++ rowC ps vs
  | _, _ => []
theorem rowC_snoc : ∀ (ps : List Pt) (vs : List Value) (p : Pt) (v : Value), vs.length = ps.length → rowC (ps ++ [p]) (vs ++ [v]) = rowC ps vs ++ partC p v
  | [], [], p, v, _ => by simp [rowC]
  | [], _ :: _, _, _, h => by simp at h
  | _ :: _, [], _, _, h => by simp at h
  | q :: ps, u :: vs, p, v, h => by
    simp only [List.cons_append, rowC, List.append_assoc]
    rw [rowC_snoc ps vs p v (by simpa using h)]
theorem rowC_len : ∀ (ps : List Pt) (vs : List Value), vs.length = ps.length → (rowC ps vs).length = ps.length * 4
  | [], [], _ => rfl
  | [], _ :: _, h => by simp at h
  | _ :: _, [], h => by simp at h
  | q :: ps, u :: vs, h => by
    simp only [rowC, List.length_append, List.length_cons]
    rw [rowC_len ps vs (by simpa using h)]
    simp [partC]; omega
theorem rowC_at : ∀ (ps : List Pt) (kv : List Value) (hl : kv.length = ps.length) (k : Nat) (hk : k < ps.length) (j : Nat), j < 4 → (rowC ps kv)[k * 4 + j]? = (partC ps[k] (kv.getD k undef))[j]?
  | [], _, _, k, hk, _, _ => by simp at hk
  | p :: ps, [], hl, _, _, _, _ => by simp at hl
  | p :: ps, v :: kv, hl, k, hk, j, hj => by
    have h4 : (partC p v).length = 4 := rfl
    simp only [rowC]
    cases k with
    | zero => rw [List.getElem?_append_left (by rw [h4]; omega)]; simp
    | succ k =>
      rw [List.getElem?_append_right (by rw [h4]; omega), h4, show (k + 1) * 4 + j - 4 = k * 4 + j by omega]
      have := rowC_at ps kv (by simpa using hl) k (by simpa using hk) j hj
      simpa using this
/-- The marks behind a list. -/
def room : List Int := [-7, -8, -9]
/-- A row of kids with the three marks behind it. -/
def KSp (w : World) (base : Nat) (v : Value) (xs : List Int) : Prop :=
  ∃ g c, v = .slice (some ⟨g, 0, none⟩) xs.length c ∧ w.ownsRow base 3 1 (.slice (some ⟨g, 0, none⟩) (xs ++ room).length c) (xs ++ room).length (nums .i64 (xs ++ room))
theorem KSp.kept {w w' : World} {base : Nat} {v : Value} {xs : List Int} (h : KSp w base v xs) {row : Option Nat} (hg : w.grownBy w' row) (hne : v.ownBlock ≠ row) : KSp w' base v xs := by
  obtain ⟨g, c, rfl, h2⟩ := h
  exact ⟨g, c, rfl, own_other h2 hg (.inr (by simpa [Value.ownBlock] using hne))⟩
theorem KSp.lt {w : World} {base : Nat} {v : Value} {xs : List Int} (h : KSp w base v xs) : ∃ g, v.ownBlock = some g ∧ base ≤ g ∧ g < w.heap.size := by
  obtain ⟨g, c, rfl, h2⟩ := h
  rcases h2.2 with ⟨h3, _⟩ | ⟨g', cap, cur, h3, h4, h5, _⟩
  · cases h3
  · have e : g = g' := by injection h3 with h3; injection h3 with h3; injection h3
    subst e
    exact ⟨g, rfl, h4, (Array.getElem?_eq_some_iff.1 h5).1⟩
/-- What stands in such a row. -/
theorem KSp.form {w : World} {base : Nat} {v : Value} {xs : List Int} (h : KSp w base v xs) : ∃ g c, v = .slice (some ⟨g, 0, none⟩) xs.length c ∧ xs.length + 3 ≤ c ∧ c ≤ maxLen ∧ g < w.heap.size ∧ ∀ j, j < xs.length + 3 → w.cell? ⟨g, j, none⟩ = some (.int .i64 ((xs ++ room).getD j 0)) := by
  obtain ⟨g0, e0, _, hlt⟩ := h.lt
  obtain ⟨g, c, rfl, h2⟩ := h
  have eg : g = g0 := by injection e0
  subst eg
  have hl : (xs ++ room).length = xs.length + 3 := by simp [room]
  have hc : xs.length + 3 ≤ c ∧ c ≤ maxLen := by
    rcases h2.2 with ⟨h3, _⟩ | ⟨g', cap, cur, h3, _, _, h6, h7, _⟩
    · cases h3
    · have e : c = cap := by injection h3
      subst e
      exact ⟨by omega, h7⟩
  refine ⟨g, c, rfl, hc.1, hc.2, hlt, fun j hj => ?_⟩
  have := (own_at h2 (j : Int) (by omega) (by omega)).1
  rw [Int.toNat_natCast] at this
  rw [this]
  unfold rd
  simp
/-- The list of parts so far (ex: what else stands behind them in the row). -/
structure FullAt (w : World) (base : Nat) (v : Value) (l : List Pt) (kv : List Value) (n : Nat) (ex : List Value) : Prop where
  row : w.ownsRow base 45 4 v n (rowC l kv ++ ex)
  klen : kv.length = l.length
  kids : ∀ i (h : i < l.length), KSp w base (kv.getD i undef) l[i].f3
  apart : ∀ x ∈ kv, x.ownBlock ≠ v.ownBlock
theorem mem_getD {kv : List Value} {i : Nat} (h : i < kv.length) : kv.getD i undef ∈ kv := by
  rw [List.getD_eq_getElem?_getD, List.getElem?_eq_getElem h]; exact List.getElem_mem h
theorem FullAt.start (w : World) (base : Nat) : FullAt w base (.slice none 0 0) [] [] 0 [] :=
  ⟨⟨rfl, .inl ⟨rfl, rfl⟩⟩, rfl, fun i h => absurd h (Nat.not_lt_zero _), fun x h => by cases h⟩
theorem FullAt.vlt {w : World} {base : Nat} {v : Value} {l : List Pt} {kv : List Value} {n : Nat} {ex : List Value} (h : FullAt w base v l kv n ex) : ∀ k, v.ownBlock = some k → base ≤ k ∧ k < w.heap.size := by
  intro k hk
  rcases h.row.2 with ⟨h3, _⟩ | ⟨g', cap, cur, h3, h4, h5, _⟩
  · rw [h3] at hk; cases hk
  · rw [h3] at hk
    injection hk with hk
    subst hk
    exact ⟨h4, (Array.getElem?_eq_some_iff.1 h5).1⟩
theorem FullAt.grown {w w' : World} {base : Nat} {v : Value} {l : List Pt} {kv : List Value} {n : Nat} {ex : List Value} (h : FullAt w base v l kv n ex) {row : Option Nat} (hg : w.grownBy w' row) (hr : ∀ k, row = some k → w.heap.size ≤ k) : FullAt w' base v l kv n ex := by
  refine ⟨own_other h.row hg ?_, h.klen, fun i hi => (h.kids i hi).kept hg ?_, h.apart⟩
  · cases hv : v.ownBlock with
    | none => exact .inl rfl
    | some k =>
      refine .inr (fun e => ?_)
      have h1 := hr k e.symm
      have h2 := (h.vlt k hv).2
      omega
  · obtain ⟨g, hv, _, h2⟩ := (h.kids i hi).lt
    rw [hv]
    intro e
    have h1 := hr g e.symm
    omega
theorem FullAt.below {w w' : World} {base : Nat} {v : Value} {l : List Pt} {kv : List Value} {n : Nat} {ex : List Value} (h : FullAt w base v l kv n ex) (k : Below w.heap.size w w') : FullAt w' base v l kv n ex :=
  h.grown (grown_of_below k none) (fun _ e => by cases e)
/-- One more part behind the list. -/
theorem FullAt.put {W w1 : World} {base : Nat} {v v1 : Value} {l : List Pt} {kv : List Value} (h : FullAt W base v l kv l.length []) (p : Pt) (vk : Value) (hk : KSp W base vk p.f3) (hne : vk.ownBlock ≠ v.ownBlock)
    (hg : W.grownBy w1 v.ownBlock) (ho : w1.ownsRow base 45 4 v1 (l.length + 1) (rowC l kv ++ [] ++ partC p vk)) (hat : v1.ownBlock = v.ownBlock ∨ v1.ownBlock = some W.heap.size) :
    FullAt w1 base v1 (l ++ [p]) (kv ++ [vk]) (l ++ [p]).length [] := by
  refine ⟨?_, by simp [h.klen], fun i hi => ?_, fun x hx => ?_⟩
  · rw [rowC_snoc _ _ _ _ h.klen]
    simpa using ho
  · by_cases e : i < l.length
    · have e1 : (kv ++ [vk]).getD i undef = kv.getD i undef := by
        simp [List.getD_eq_getElem?_getD, List.getElem?_append_left (show i < kv.length by rw [h.klen]; exact e)]
      have e2 : (l ++ [p])[i] = l[i] := List.getElem_append_left e
      rw [e1, e2]
      exact (h.kids i e).kept hg (h.apart _ (mem_getD (by rw [h.klen]; exact e)))
    · have e0 : i = l.length := by simp at hi; omega
      have e1 : (kv ++ [vk]).getD i undef = vk := by
        rw [e0, ← h.klen]; simp [List.getD_eq_getElem?_getD]
      have e2 : (l ++ [p])[i] = p := by simp [e0]
      rw [e1, e2]
      exact hk.kept hg hne
  · have hold : ∀ y ∈ kv ++ [vk], y.ownBlock ≠ v.ownBlock ∧ ∃ g, y.ownBlock = some g ∧ g < W.heap.size := by
      intro y hy
      rcases List.mem_append.1 hy with hy | hy
      · refine ⟨h.apart y hy, ?_⟩
        obtain ⟨i, hi, rfl⟩ := List.mem_iff_getElem.1 hy
        obtain ⟨g, h1, _, h2⟩ := (h.kids i (by rw [← h.klen]; exact hi)).lt
        rw [List.getD_eq_getElem?_getD, List.getElem?_eq_getElem hi] at h1
        exact ⟨g, h1, h2⟩
      · obtain rfl : y = vk := by simpa using hy
        obtain ⟨g, h1, _, h2⟩ := hk.lt
        exact ⟨hne, g, h1, h2⟩
    obtain ⟨h1, g, h2, h3⟩ := hold x hx
    rcases hat with e | e
    · rw [e]; exact h1
    · rw [e, h2]; intro e2; injection e2 with e2; omega
/-- More cells behind the list. -/
theorem FullAt.more {W w1 : World} {base : Nat} {v v1 : Value} {l : List Pt} {kv : List Value} {n : Nat} {ex : List Value} (h : FullAt W base v l kv l.length []) 
    (hg : W.grownBy w1 v.ownBlock) (ho : w1.ownsRow base 45 4 v1 n (rowC l kv ++ [] ++ ex)) (hat : v1.ownBlock = v.ownBlock ∨ v1.ownBlock = some W.heap.size) :
    FullAt w1 base v1 l kv n ex := by
  refine ⟨by simpa using ho, h.klen, fun i hi => (h.kids i hi).kept hg (h.apart _ (mem_getD (by rw [h.klen]; exact hi))), fun x hx => ?_⟩
  obtain ⟨i, hi, rfl⟩ := List.mem_iff_getElem.1 hx
  obtain ⟨g, h1, _, h2⟩ := (h.kids i (by rw [← h.klen]; exact hi)).lt
  rw [List.getD_eq_getElem?_getD, List.getElem?_eq_getElem hi] at h1
  rcases hat with e | e
  · rw [e]; exact h.apart _ hx
  · rw [e]; intro e2
    rw [show (kv[i] : Value).ownBlock = some g from h1] at e2
    injection e2 with e2; omega
/-- What stands in the list, part by part. -/
structure SpAt (w : World) (g : Nat) (l : List Pt) : Prop where
  part : ∀ i (h : i < l.length), w.cell? ⟨g, i * 4, none⟩ = some (.int .i64 l[i].f0) ∧ w.cell? ⟨g, i * 4 + 1, none⟩ = some (.string l[i].f1) ∧ w.cell? ⟨g, i * 4 + 2, none⟩ = some (.int .i64 l[i].f2) ∧
    ∃ gk ck, w.cell? ⟨g, i * 4 + 3, none⟩ = some (.slice (some ⟨gk, 0, none⟩) l[i].f3.length ck) ∧ l[i].f3.length + 3 ≤ ck ∧ ck ≤ maxLen ∧ ∀ j, j < l[i].f3.length + 3 → w.cell? ⟨gk, j, none⟩ = some (.int .i64 ((l[i].f3 ++ room).getD j 0))
theorem SpAt.below {w w' : World} {g : Nat} {l : List Pt} (h : SpAt w g l) (k : Below w.heap.size w w') : SpAt w' g l :=
  ⟨fun i hi => by
    obtain ⟨h0, h1, h2, gk, ck, h3, h4, h5, h6⟩ := h.part i hi
    exact ⟨pw_cell_below k h0, pw_cell_below k h1, pw_cell_below k h2, gk, ck, pw_cell_below k h3, h4, h5, fun j hj => pw_cell_below k (h6 j hj)⟩⟩
theorem FullAt.open_ {w : World} {base : Nat} {v : Value} {l : List Pt} {kv : List Value} {n : Nat} {ex : List Value} (h : FullAt w base v l kv (n + 1) ex) :
    ∃ g c, v = .slice (some ⟨g, 0, none⟩) (n + 1) c ∧ n + 1 ≤ c ∧ c ≤ maxLen ∧ base ≤ g ∧ g < w.heap.size ∧ SpAt w g l ∧ ∀ j, j < ex.length → w.cell? ⟨g, l.length * 4 + j, none⟩ = ex[j]? := by
  rcases h.row.2 with ⟨h3, h4⟩ | ⟨g, cap, cur, h3, h4, h5, h6, h7, h8, h9⟩
  · omega
  · have hcell : ∀ j, j < (rowC l kv ++ ex).length → w.cell? ⟨g, j, none⟩ = (rowC l kv ++ ex)[j]? := fun j hj => by
      rw [Lib.cell_of_heap h5 j, ← h9, List.getElem?_take, if_pos (by rw [← h.row.1]; exact hj), Array.getElem?_toList]
    have hrl := rowC_len l kv h.klen
    refine ⟨g, cap, h3, h6, h7, h4, (Array.getElem?_eq_some_iff.1 h5).1, ⟨fun i hi => ?_⟩, fun j hj => ?_⟩
    · have hp : ∀ j, j < 4 → w.cell? ⟨g, i * 4 + j, none⟩ = (partC l[i] (kv.getD i undef))[j]? := fun j hj => by
        rw [hcell _ (by rw [List.length_append, hrl]; omega), List.getElem?_append_left (by rw [hrl]; omega), rowC_at l kv h.klen i hi j hj]
      obtain ⟨gk, ck, k1, k2, k3, _, k5⟩ := (h.kids i hi).form
      refine ⟨hp 0 (by omega), hp 1 (by omega), hp 2 (by omega), gk, ck, ?_, k2, k3, k5⟩
      rw [hp 3 (by omega), k1]; rfl
    · rw [← hrl, hcell _ (by rw [List.length_append]; omega), List.getElem?_append_right (by omega)]
      congr 1; omega
theorem addn (g i : Nat) : (⟨g, 0, none⟩ : Addr).add i = ⟨g, i, none⟩ := by unfold Addr.add; split <;> simp_all
/-- Such a list is a tree that is read. -/
theorem SpAt.tree {w : World} {g : Nat} {l : List Pt} (h : SpAt w g l) (hl : l.length ≤ 140737488355328) (hk : ∀ i (h : i < l.length), l[i].f3.length ≤ 140737488355328) : Kd.F k45 w (fun _ => True) (some ⟨g, 0, none⟩) l.length l := by
  refine fun W' hW => ⟨rfl, by omega, fun hpos => ⟨⟨g, 0, none⟩, rfl, fun j p hp => ?_⟩⟩
  have hj : j < l.length := (List.getElem?_eq_some_iff.1 hp).1
  rw [List.getElem?_eq_getElem hj] at hp
  obtain rfl := Option.some.inj hp
  obtain ⟨d0, d1, d2, gk, ck, d3, hc, _, hIn⟩ := h.part j hj
  have hkl := hk j hj
  have hrow : (Kd.int .i64).C W' (some ⟨gk, 0, none⟩) l[j].f3.length l[j].f3 := (ints_F (W := w) (a := ⟨gk, 0, none⟩) (zs := l[j].f3) rfl (by omega) (fun i hi => by
    rw [addn, hIn i (by omega)]
    simp [List.getD_eq_getElem?_getD, List.getElem?_append_left hi])) W' hW
  refine ⟨_, rfl, k45_mk W' l[j] (A3 := some ⟨gk, 0, none⟩) (c3 := ck) (by omega) hrow, fun i u hu => ?_⟩
  show W'.cell? ((⟨g, 0, none⟩ : Addr).add (j * 4 + i)) = some u
  rw [addn]
  match i, hu with
  | 0, hu => obtain rfl := Option.some.inj hu; exact cell_agree hW d0
  | 1, hu => obtain rfl := Option.some.inj hu; exact cell_agree hW d1
  | 2, hu => obtain rfl := Option.some.inj hu; exact cell_agree hW d2
  | 3, hu => obtain rfl := Option.some.inj hu; exact cell_agree hW d3
theorem own_sum (l0 : List Pt) : ∀ (d i : Nat) (free : List Int), d = l0.length - i → i ≤ l0.length → formGo l0 (l0.drop i) i free = none → kidSum (l0.drop i) + 1 = free.length + (l0.length - i)
  | 0, i, free, hd, hi, h => by
    obtain rfl : i = l0.length := by omega
    rw [List.drop_length] at h ⊢
    simp only [formGo] at h
    by_cases e : free.length = 1
    · simp [kidSum, e]
    · simp [e] at h
  | d + 1, i, free, hd, hi, h => by
    have hlt : i < l0.length := by omega
    cases hs : stepB l0 (rdp l0 (i : Int)) free with
    | false => rw [formGo_no l0 i free hlt hs] at h; cases h
    | true =>
      rw [formGo_yes l0 i free hlt hs] at h
      have ih := own_sum l0 d (i + 1) _ (by omega) hlt h
      rw [drop_part l0 i hlt, kidSum]
      have hle : (rd_T45 l0 (i : Int)).f3.length ≤ free.length := by
        simp only [stepB, Bool.and_eq_true, decide_eq_true_eq] at hs; exact hs.1.1.2
      simp only [stepF, List.length_append, List.length_take, List.length_singleton] at ih
      omega
theorem own_small (l0 : List Pt) (h : validSpec l0 = none) : largeB l0 = false := by
  have hf : formSpec l0 = none := by
    unfold validSpec at h
    cases hf : formSpec l0 with
    | none => rfl
    | some f => rw [hf] at h; cases h
  have hS := formSpec_shape l0 hf
  have h0 := hS.pos
  have h1 := hS.few
  have hg : formGo l0 (l0.drop 0) 0 [] = none := by
    unfold formSpec at hf
    rwa [if_neg (by omega), if_neg (by omega)] at hf
  have := own_sum l0 l0.length 0 [] rfl (Nat.zero_le _) hg
  simp at this
  simp [largeB]; omega
/-- append(list, parts ..): cells that stand in a block. -/
theorem parts_append {ops : Array Oper} {rest : List Oper} {o : Oper} {a : Act} {Q : Exit → Act → World → Prop} {W : World} (base : Nat) (hgd : o.guard = none) (s x : Operand)
    (ho : o.op = .call { callee := .builtin .append, args := #[s, x], argTypes := #[22, 22] })
    (v : Value) (n : Nat) (xs : List Value) (g m : Nat) (news : List Value) (cs : Array Value) (hcs : cs.toList = news) (hs : a.eval s = v) (hx : a.eval x = .slice (some ⟨g, 0, none⟩) m m) (hnl : news.length = m * 4)
    (hb : W.heap[g]? = some (.cells cs 45 (0, 0))) (h1 : ∀ u ∈ news, u.oneCell' = true) (HO : W.ownsRow base 45 4 v n xs) (hbase : base ≤ W.heap.size) (hn : n + m ≤ 1000000)
    (h : ∀ v1 w1, w1.ownsRow base 45 4 v1 (n + m) (xs ++ news) → W.grownBy w1 v.ownBlock → (v1.ownBlock = v.ownBlock ∨ v1.ownBlock = some W.heap.size) → wpList Tryd.prog ops Q rest (a.put o.dst v1) w1) :
    wpList Tryd.prog ops Q (o :: rest) a W := by
  obtain ⟨i0, hi, hzz⟩ := Option.map_eq_some_iff.1 info45
  simp only [Prod.mk.injEq] at hzz
  obtain ⟨hz0, hz1, hz2⟩ := hzz
  refine wpList_append_own_at W hgd s x 22 ho base 45 i0 _ 4 56 Tryd.underlying22 hi hz0 hz1 hz2 rfl (by omega) v n _ hs HO ⟨g, 0, none⟩ m m news hx hnl
    (fun j u hu => World.news_of_block (cs := cs) (t := 45) (fr := (0, 0)) hb j u (by rw [hcs]; exact hu)) h1 (by simp only [maxLen]; omega) (by omega) hbase ?_
  intro v1 w1 hown hg _ hat
  exact h v1 w1 hown hg hat
theorem own_large_c (A : Option Addr) (c : Nat) (l0 : List Pt) (w : World) (h : Law w A c l0) :
    Calls Tryd.prog 19 #[.agg #[.slice A l0.length c]] w fun e w' => e = .returned (.bool (largeB l0)) ∧ Below w.heap.size w w' := by
  obtain ⟨k, hk⟩ := (large_ev l0 h.small).rounds
  exact berthref13_Large.calls k A c l0 _ w h.reads h.cap hk

/-- The part at a place, as its cells in memory. -/
theorem own_part {ok : Nat → Prop} {w : World} {A : Option Addr} {l0 : List Pt} (h : Kd.F k45 w ok A l0.length l0) (k : Nat) (hk : k < l0.length) (p : Pt) (hp : rd_T45 l0 (k : Int) = p) : ∃ ad A3 c3, A = some ad ∧ w.cell? (ad.add (k * 4)) = some (.int .i64 p.f0) ∧ w.cell? ⟨(ad.add (k * 4)).block, (ad.add (k * 4)).off + 1, none⟩ = some (.string p.f1) ∧
    w.cell? ⟨(ad.add (k * 4)).block, (ad.add (k * 4)).off + 2, none⟩ = some (.int .i64 p.f2) ∧ w.cell? ⟨(ad.add (k * 4)).block, (ad.add (k * 4)).off + 3, none⟩ = some (.slice A3 p.f3.length c3) ∧ p.f3.length ≤ c3 ∧ Kd.F (Kd.int .i64) w ok A3 p.f3.length p.f3 := by
  obtain ⟨ad, cs, e, _, hK, hc0, _⟩ := Kd.F_get h z45 (k : Int) (by omega) (by omega)
  rw [show l0.getD (k : Int).toNat z45 = p from hp] at hK
  obtain ⟨A3, c3, rfl, l3, g3⟩ := k45_openF hK
  have hc : ∀ j u, [Value.int .i64 p.f0, .string p.f1, .int .i64 p.f2, .slice A3 p.f3.length c3][j]? = some u → w.cell? (ad.add (k * 4 + j)) = some u := hc0
  exact ⟨ad, A3, c3, e, hc 0 _ rfl, by rw [← add_field _ _ 1 (by omega)]; exact hc 1 _ rfl, by rw [← add_field _ _ 2 (by omega)]; exact hc 2 _ rfl, by rw [← add_field _ _ 3 (by omega)]; exact hc 3 _ rfl, l3, g3⟩

theorem own_kidSum (p : Pt) : ∀ l : List Pt, p ∈ l → p.f3.length ≤ kidSum l
  | [], h => by cases h
  | q :: l, h => by
    rw [kidSum]
    rcases List.mem_cons.1 h with rfl | h
    · omega
    · have := own_kidSum p l h; omega
theorem own_few {l0 : List Pt} (hl : largeB l0 = false) (k : Nat) (hk : k < l0.length) : (rd_T45 l0 (k : Int)).f3.length ≤ 100000 := by
  have e : rd_T45 l0 (k : Int) = l0[k] := by simp [rd_T45, List.getD_eq_getElem?_getD, List.getElem?_eq_getElem hk]
  rw [e]
  have := own_kidSum l0[k] l0 (List.getElem_mem hk)
  simp [largeB] at hl
  omega

theorem grown_set (w : World) (p : Addr) (x : Value) : w.grownBy (w.setCell p x) (some p.block) :=
  have b := (Below.refl p.block w).setCell (p := p) (Nat.le_refl _) x
  ⟨b.os, b.tape, b.output, b.size, fun k hk hne => heap_setCell_other _ _ _ _ (fun e => hne (by rw [e]))⟩
theorem ints_read {w : World} {A : Option Addr} {n : Nat} {xs : List Int} (h : (Kd.int .i64).C w A n xs) : ReadsInt w .i64 A n xs := by
  refine ⟨Kd.C_len h, h.2.1, fun hp => ?_⟩
  obtain ⟨ad, e, _⟩ := Kd.at_int h 0 (by omega) (by omega)
  refine ⟨ad, e, fun j hj => ?_⟩
  obtain ⟨ad', e', hc⟩ := Kd.at_int h (j : Int) (by omega) (by omega)
  rw [e] at e'
  injection e' with e'
  subst e'
  simpa [rd] using hc
theorem room_read {w : World} {g : Nat} (h : w.heap[g]? = some (.cells #[.int .i64 (-7), .int .i64 (-8), .int .i64 (-9)] 3 (0, 0))) : ReadsInt w .i64 (some ⟨g, 0, none⟩) 3 room := by
  refine ⟨rfl, by omega, fun _ => ⟨_, rfl, fun j hj => ?_⟩⟩
  rw [addn, Lib.cell_of_heap h j]
  match j, hj with
  | 0, _ => rfl
  | 1, _ => rfl
  | 2, _ => rfl
/-- A row with the marks behind, cut ahead of them. -/
theorem ksp_of {w : World} {base : Nat} {v : Value} {xs : List Int} (h : w.ownsRow base 3 1 v (xs ++ room).length (nums .i64 (xs ++ room))) :
    ∃ g c, v = .slice (some ⟨g, 0, none⟩) (xs.length + 3) c ∧ xs.length + 3 ≤ c ∧ c ≤ maxLen ∧ base ≤ g ∧ g < w.heap.size ∧ KSp w base (.slice (some ⟨g, 0, none⟩) xs.length c) xs := by
  have hl : (xs ++ room).length = xs.length + 3 := by simp [room]
  rcases h.2 with ⟨_, h4⟩ | ⟨g, cap, cur, h3, h4, h5, h6, h7, _⟩
  · omega
  · subst h3
    exact ⟨g, cap, by rw [hl], by omega, h7, h4, (Array.getElem?_eq_some_iff.1 h5).1, g, cap, rfl, h⟩
theorem KSp.mono {w : World} {b b' : Nat} {v : Value} {xs : List Int} (h : KSp w b v xs) (hb : b' ≤ b) : KSp w b' v xs := by
  obtain ⟨g, c, e, h1, h2⟩ := h
  refine ⟨g, c, e, h1, ?_⟩
  rcases h2 with h2 | ⟨g', cap, cur, h3, h4, h5⟩
  · exact .inl h2
  · exact .inr ⟨g', cap, cur, h3, by omega, h5⟩
theorem own_nil (W : World) (g : Nat) (h : W.heap[g]? = some (.cells #[] 3 (0, 0))) (base : Nat) (hb : base ≤ g) : W.ownsRow base 3 1 (.slice (some ⟨g, 0, none⟩) 0 0) ([] : List Int).length (nums .i64 []) :=
  ⟨rfl, .inr ⟨g, 0, #[], rfl, hb, h, Nat.le_refl _, by simp [maxLen], rfl, rfl⟩⟩

end Go.Proofs.YteeojceloljcbaaDoor.H
