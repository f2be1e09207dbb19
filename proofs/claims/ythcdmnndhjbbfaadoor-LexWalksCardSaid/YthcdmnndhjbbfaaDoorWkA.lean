/-
  What LexWalks' code has in hand, between two rounds of its loops. No walk of it.
-/
import Derived.Test.YthcdmnndhjbbfaaDoorLawScans
import Derived.Test.YthcdmnndhjbbfaaDoorLexO
import Derived.Test.YthcdmnndhjbbfaaDoorRangeN
set_option linter.unusedVariables false
set_option linter.unusedSimpArgs false
namespace Go.Proofs.YthcdmnndhjbbfaaDoor.X
open Go.RowKit
/-- The blocks Bs alone have changed (and new ones). -/
structure Mv (Bs : List Nat) (W W' : World) : Prop where
  os : W'.os = W.os
  tape : W'.tape = W.tape
  output : W'.output = W.output
  size : W.heap.size ≤ W'.heap.size
  block : ∀ b, b < W.heap.size → b ∉ Bs → W'.heap[b]? = W.heap[b]?
theorem Mv.refl (Bs : List Nat) (W : World) : Mv Bs W W := ⟨rfl, rfl, rfl, Nat.le_refl _, fun _ _ _ => rfl⟩
theorem Mv.trans {Bs : List Nat} {A B C : World} (h : Mv Bs A B) (k : Mv Bs B C) : Mv Bs A C :=
  ⟨k.os.trans h.os, k.tape.trans h.tape, k.output.trans h.output, Nat.le_trans h.size k.size, fun b hb hn => (k.block b (Nat.lt_of_lt_of_le hb h.size) hn).trans (h.block b hb hn)⟩
theorem Mv.of_below {Bs : List Nat} {W W' : World} (h : Below W.heap.size W W') : Mv Bs W W' := ⟨h.os, h.tape, h.output, h.size, fun b hb _ => h.block b hb⟩
theorem Mv.set {Bs : List Nat} (W : World) {b : Nat} (hb : b ∈ Bs) (v : Value) : Mv Bs W (W.setCell ⟨b, 0, none⟩ v) := ⟨rfl, rfl, rfl, by simp, fun k _ hn => Below.heap_setCell _ _ _ k (fun e => hn (by rw [e]; exact hb))⟩
theorem Mv.below {Bs : List Nat} {W W' : World} {B0 : Nat} (h : Mv Bs W W') (hB : ∀ b, b ∈ Bs → B0 ≤ b) (hW : B0 ≤ W.heap.size) : Below B0 W W' :=
  ⟨h.os, h.tape, h.output, h.size, fun k hk => h.block k (by omega) (fun e => by have := hB k e; omega)⟩
theorem Mv.spares {Bs : List Nat} {W W' : World} {B0 : Nat} (h : Mv Bs W W') (hB : ∀ b, b ∈ Bs → B0 ≤ b) (hW : B0 ≤ W.heap.size) : Spares B0 Bs none W W' :=
  ⟨h.below hB hW, fun b cs t fr hn _ hc => (h.block b (Array.getElem?_eq_some_iff.1 hc).1 hn).trans hc, .inl rfl⟩
theorem Mv.keeps {Bs : List Nat} {W W' : World} (h : Mv Bs W W') (hc : ∀ b, b ∈ Bs → ∃ t v, Boxed W b t v) (B : Nat) : KeepsFrom B W W' :=
  ⟨h.size, fun k o _ hk ho => (h.block k (Array.getElem?_eq_some_iff.1 hk).1 (fun e => by
    obtain ⟨t, v, hb⟩ := hc k e
    rw [show W.heap[k]? = _ from hb] at hk
    cases hk
    cases ho)).trans hk⟩
theorem Mv.box {Bs : List Nat} {W W' : World} {b t : Nat} {v : Value} (h : Mv Bs W W') (hb : Boxed W b t v) (hn : b ∉ Bs) : Boxed W' b t v := (h.block b hb.lt hn).trans hb
abbrev walkV (sb : Nat) : Value := .func (.func 32) #[] #[.pointer (some ⟨sb, 0, none⟩)]
/-- The variables that stay, and what they hold. -/
structure WS (w : World) (D : Nat) (E : Int) (vw : Value) (ts : List Tk) (f : Option (Int × Nat)) (s : ByteArray) (W : World) : Prop where
  bel : Below w.heap.size w W
  wD : w.heap.size + 2 ≤ D
  sz : D + 5 ≤ W.heap.size
  cE : Boxed W w.heap.size 3 (.int .i64 E)
  cR : Boxed W (w.heap.size + 1) 4 (.bool false)
  cW : Boxed W D 33 vw
  ce : Boxed W (D + 1) 3 (.int .i64 (codeOf f))
  ca : Boxed W (D + 2) 3 (.int .i64 (placeOf f))
  cS : Boxed W (D + 3) 9 (.string s)
  ck : Boxed W (D + 4) 40 (walkV (D + 3))
  tw : TokSl W w.heap.size vw ts
  vb : ∀ g, vw.ownBlock = some g → g < D
theorem WS.mv {w : World} {D : Nat} {E : Int} {vw : Value} {ts : List Tk} {f : Option (Int × Nat)} {s : ByteArray} {W W' : World} {Bs : List Nat} (h : WS w D E vw ts f s W) (m : Mv Bs W W') (hB : ∀ b, b ∈ Bs → D + 5 ≤ b) : WS w D E vw ts f s W' := by
  have hwD := h.wD
  have hsz := h.sz
  have hn : ∀ k, k < D + 5 → k ∉ Bs := fun k hk e => by have := hB k e; omega
  refine ⟨h.bel.trans (m.below (fun b hb => by have := hB b hb; omega) h.bel.size), h.wD, Nat.le_trans h.sz m.size, m.box h.cE (hn _ (by omega)), m.box h.cR (hn _ (by omega)), m.box h.cW (hn _ (by omega)), m.box h.ce (hn _ (by omega)), m.box h.ca (hn _ (by omega)), m.box h.cS (hn _ (by omega)), m.box h.ck (hn _ (by omega)), ?_, h.vb⟩
  refine ⟨h.tw.1, ?_⟩
  rcases h.tw.2 with h1 | ⟨g, cap, cur, rfl, h3, h4, h5⟩
  · exact .inl h1
  · exact .inr ⟨g, cap, cur, rfl, h3, (m.block g (Array.getElem?_eq_some_iff.1 h4).1 (hn g (by have := h.vb g rfl; omega))).trans h4, h5⟩
theorem WS.own {w : World} {D : Nat} {E : Int} {vw : Value} {ts : List Tk} {f : Option (Int × Nat)} {s : ByteArray} {B : Nat} (hB : w.heap.size ≤ B) {X Y : World} {row : Option Nat} (h : WS w D E vw ts f s X) (hg : X.grownBy Y row) (hr : ∀ r, row = some r → B ≤ r ∧ ∃ o : Obj, X.heap[r]? = some o ∧ o.isCells = false) : WS w D E vw ts f s Y := by
  have hr2 : ∀ r, row = some r → ∃ o : Obj, X.heap[r]? = some o ∧ o.isCells = false := fun r e => (hr r e).2
  exact ⟨h.bel.grown hg h.bel.size (fun k e => Nat.le_trans hB (hr k e).1), h.wD, Nat.le_trans h.sz hg.size, block_kept h.cE hg hr2, block_kept h.cR hg hr2, block_kept h.cW hg hr2, block_kept h.ce hg hr2, block_kept h.ca hg hr2, block_kept h.cS hg hr2, block_kept h.ck hg hr2, row_kept h.tw hg hr2, h.vb⟩
/-- .. and the marks that lie. -/
structure RI (w : World) (D : Nat) (E : Int) (vw : Value) (ts : List Tk) (f : Option (Int × Nat)) (s : ByteArray) (B : Nat) (ds : List Nat) (W : World) : Prop where
  ws : WS w D E vw ts f s W
  mks : ∀ d, d ∈ ds → d < B ∧ W.heap[d]? = some (.deferred (some []))
theorem RI.mv {w : World} {D : Nat} {E : Int} {vw : Value} {ts : List Tk} {f : Option (Int × Nat)} {s : ByteArray} {B : Nat} {ds : List Nat} {W W' : World} {Bs : List Nat} (h : RI w D E vw ts f s B ds W) (m : Mv Bs W W') (hB : ∀ b, b ∈ Bs → D + 5 ≤ b) (hc : ∀ b, b ∈ Bs → ∃ t v, Boxed W b t v) : RI w D E vw ts f s B ds W' :=
  ⟨h.ws.mv m hB, fun d hd => ⟨(h.mks d hd).1, (m.block d (Array.getElem?_eq_some_iff.1 (h.mks d hd).2).1 (fun e => by
    obtain ⟨t, v, hb⟩ := hc d e
    have h2 := (h.mks d hd).2
    rw [show W.heap[d]? = _ from hb] at h2
    cases h2)).trans (h.mks d hd).2⟩⟩
theorem RI.own {w : World} {D : Nat} {E : Int} {vw : Value} {ts : List Tk} {f : Option (Int × Nat)} {s : ByteArray} {B B' : Nat} {ds : List Nat} (hw : w.heap.size ≤ B') (hBB : B ≤ B') {X Y : World} {row : Option Nat} (h : RI w D E vw ts f s B ds X) (hg : X.grownBy Y row) (hr : ∀ r, row = some r → B' ≤ r ∧ ∃ o : Obj, X.heap[r]? = some o ∧ o.isCells = false) : RI w D E vw ts f s B ds Y :=
  ⟨h.ws.own hw hg hr, fun d hd => ⟨(h.mks d hd).1, (hg.block d (Array.getElem?_eq_some_iff.1 (h.mks d hd).2).1 (fun e => by
    have := (hr d e.symm).1
    have := (h.mks d hd).1
    omega)).trans (h.mks d hd).2⟩⟩
/-- What has come, in a round of the first loop: so many tokens; all is done. -/
def St (ts : List Tk) (f : Option (Int × Nat)) (pre : List It) (k : Nat) (d : Bool) : Prop :=
  (∃ us, pre = us.map .tok ∧ us = ts.take us.length ∧ us.length ≤ ts.length ∧ k = us.length ∧ d = decide (codeOf f = 0 ∧ us.length = ts.length)) ∨ (∃ c a b, pre = ts.map .tok ++ [.flt c a b] ∧ f = some (c, a) ∧ k = ts.length ∧ d = true)
theorem St.begin {ts : List Tk} {f : Option (Int × Nat)} (hne : f = none → ts ≠ []) (hf : ∀ c a, f = some (c, a) → c ≠ 0) : St ts f [] 0 false := by
  refine .inl ⟨[], rfl, by simp, by simp, rfl, ?_⟩
  symm
  rw [decide_eq_false_iff_not]
  rintro ⟨h1, h2⟩
  cases f with
  | none => exact hne rfl (List.eq_nil_of_length_eq_zero h2.symm)
  | some f => obtain ⟨c, a⟩ := f; exact hf c a rfl h1
/-- A token comes. -/
theorem St.tok {l : Bs} {base : Nat} {W : World} {ts : List Tk} {f : Option (Int × Nat)} {pre : List It} {k : Nat} {d : Bool} {t : Tk} (hP : prefixL l = (ts, f)) (h : St ts f pre k d) (hR : ItR l base pre (.tok t) W) :
    ∃ hk : k < ts.length, ts[k] = t ∧ d = false ∧ St ts f (pre ++ [.tok t]) (k + 1) (decide (codeOf f = 0 ∧ k + 1 = ts.length)) := by
  have hR' : ts[pre.length]? = some t := by have h1 : (prefixL l).1[pre.length]? = some t := hR; rw [hP] at h1; exact h1
  rcases h with ⟨us, rfl, h2, h3, rfl, rfl⟩ | ⟨c, a, b, rfl, h2, rfl, rfl⟩
  · rw [List.length_map] at hR'
    obtain ⟨hk, ht⟩ := List.getElem?_eq_some_iff.1 hR'
    refine ⟨hk, ht, decide_eq_false (fun h => by omega), .inl ⟨us ++ [t], by simp, ?_, by simp; omega, by simp, by simp⟩⟩
    rw [List.length_append, List.length_singleton, List.take_succ_eq_append_getElem hk, ← h2, ht]
  · rw [List.length_append, List.length_map, List.length_singleton, List.getElem?_eq_none (by omega)] at hR'
    cases hR'
/-- A fault comes. -/
theorem St.flt {l : Bs} {base : Nat} {W : World} {ts : List Tk} {f : Option (Int × Nat)} {pre : List It} {k : Nat} {d : Bool} {c : Int} {a b : Nat} (hP : prefixL l = (ts, f)) (hf : ∀ c a, f = some (c, a) → c ≠ 0) (h : St ts f pre k d) (hR : ItR l base pre (.flt c a b) W) :
    k = ts.length ∧ f = some (c, a) ∧ d = false ∧ W.heap[b]? = some (faultObj c a) ∧ St ts f (pre ++ [.flt c a b]) k true := by
  obtain ⟨h1, h2, _, h4⟩ := hR
  rw [hP] at h1 h2
  rcases h with ⟨us, rfl, h5, h6, rfl, rfl⟩ | ⟨c', a', b', rfl, h5, rfl, rfl⟩
  · rw [List.length_map] at h1
    have h1' : us.length = ts.length := h1
    have h2' : f = some (c, a) := h2
    have hu : us = ts := by rw [h5, h1', List.take_length]
    refine ⟨h1', h2', decide_eq_false (fun h => by rw [h2'] at h; exact hf c a h2' h.1), h4, .inr ⟨c, a, b, by rw [hu], h2', h1', rfl⟩⟩
  · rw [List.length_append, List.length_map, List.length_singleton] at h1
    have h1' : ts.length + 1 = ts.length := h1
    omega
/-- All has come. -/
theorem St.fin {l : Bs} {ts : List Tk} {f : Option (Int × Nat)} {pre : List It} {k : Nat} {d : Bool} (hP : prefixL l = (ts, f)) (h : St ts f pre k d) (hS : ItS l pre) : d = true := by
  unfold ItS at hS
  rw [hP] at hS
  rcases h with ⟨us, rfl, h5, h6, rfl, rfl⟩ | ⟨c', a', b', rfl, h5, rfl, rfl⟩
  · cases f with
    | none =>
      have h1 : us = ts := List.map_inj_right (fun a b e => by injection e) |>.1 hS
      rw [h1]
      simp [codeOf]
    | some f =>
      obtain ⟨b, hb⟩ := hS
      have hb' : us.map It.tok = ts.map It.tok ++ [.flt f.1 f.2 b] := hb
      have : It.flt f.1 f.2 b ∈ List.map It.tok us := by rw [hb']; simp
      obtain ⟨t, _, h9⟩ := List.mem_map.1 this
      cases h9
  · rfl
/-- .. of the second loop: what has come. -/
def Pre (ts : List Tk) (f : Option (Int × Nat)) (pre : List It) : Prop :=
  (∃ us, pre = us.map .tok ∧ us = ts.take us.length ∧ us.length ≤ ts.length) ∨ (∃ c a b, pre = ts.map .tok ++ [.flt c a b] ∧ f = some (c, a))
theorem Pre.begin (ts : List Tk) (f : Option (Int × Nat)) : Pre ts f [] := .inl ⟨[], rfl, by simp, by simp⟩
theorem Pre.tok {l : Bs} {base : Nat} {W : World} {ts : List Tk} {f : Option (Int × Nat)} {pre : List It} {t : Tk} (hP : prefixL l = (ts, f)) (h : Pre ts f pre) (hR : ItR l base pre (.tok t) W) :
    ∃ hk : pre.length < ts.length, ts[pre.length] = t ∧ Pre ts f (pre ++ [.tok t]) := by
  have hR' : ts[pre.length]? = some t := by have h1 : (prefixL l).1[pre.length]? = some t := hR; rw [hP] at h1; exact h1
  obtain ⟨hk, ht⟩ := List.getElem?_eq_some_iff.1 hR'
  refine ⟨hk, ht, ?_⟩
  rcases h with ⟨us, rfl, h2, h3⟩ | ⟨c, a, b, rfl, h2⟩
  · have hk' : us.length < ts.length := by simpa using hk
    refine .inl ⟨us ++ [t], by simp, ?_, by simp; omega⟩
    have ht' : ts[us.length] = t := by simpa using ht
    rw [List.length_append, List.length_singleton, List.take_succ_eq_append_getElem hk', ← h2, ht']
  · rw [List.length_append, List.length_map, List.length_singleton] at hk
    omega
theorem Pre.flt {l : Bs} {base : Nat} {W : World} {ts : List Tk} {f : Option (Int × Nat)} {pre : List It} {c : Int} {a b : Nat} (hP : prefixL l = (ts, f)) (h : Pre ts f pre) (hR : ItR l base pre (.flt c a b) W) :
    pre.length = ts.length ∧ f = some (c, a) ∧ Pre ts f (pre ++ [.flt c a b]) := by
  obtain ⟨h1, h2, _, h4⟩ := hR
  rw [hP] at h1 h2
  rcases h with ⟨us, rfl, h5, h6⟩ | ⟨c', a', b', rfl, h5⟩
  · rw [List.length_map] at h1
    have h1' : us.length = ts.length := h1
    have hu : us = ts := by rw [h5, h1', List.take_length]
    exact ⟨by rw [List.length_map]; exact h1', h2, .inr ⟨c, a, b, by rw [hu], h2⟩⟩
  · rw [List.length_append, List.length_map, List.length_singleton] at h1
    have h1' : ts.length + 1 = ts.length := h1
    omega
theorem Pre.fin {l : Bs} {ts : List Tk} {f : Option (Int × Nat)} {pre : List It} (hP : prefixL l = (ts, f)) (hS : ItS l pre) : (f = none ∧ pre.length = ts.length) ∨ (∃ c a, f = some (c, a) ∧ pre.length = ts.length + 1) := by
  unfold ItS at hS
  rw [hP] at hS
  cases f with
  | none => exact .inl ⟨rfl, by rw [show pre = ts.map It.tok from hS, List.length_map]⟩
  | some f =>
    obtain ⟨b, hb⟩ := hS
    exact .inr ⟨f.1, f.2, rfl, by rw [show pre = ts.map It.tok ++ [.flt f.1 f.2 b] from hb]; simp⟩
theorem prefix_ne {l : Bs} {ts : List Tk} (h : prefixL l = (ts, none)) : ts ≠ [] := by
  unfold prefixL at h
  split at h
  · cases h
  · have h2 := scanN_chain l (l.length + 1) 0 (Nat.zero_le _) (by omega) (by rw [h])
    rw [h] at h2
    cases h2 <;> simp

end Go.Proofs.YthcdmnndhjbbfaaDoor.X
