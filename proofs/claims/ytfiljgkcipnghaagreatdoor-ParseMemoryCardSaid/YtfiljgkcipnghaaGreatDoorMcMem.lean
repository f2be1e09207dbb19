/-
  The document's machine in memory: its rows, its numbers; what a turn of one of them leaves. No walk.
  The machine's lists of free parts, parts and places: what one more leaves. No walk.
  The walks of the machine's small steps: mark, word, fail.
  The walks of the machine's take, open, takeOpen, text, push.
  The walk of the machine's push.
  The walk of the machine's lay.
  What a step of the machine answers; the walk of leaf.
-/
import Derived.Test.YtfiljgkcipnghaaGreatDoorMcPl
import Derived.Test.YtfiljgkcipnghaaGreatDoorParMem
import Derived.Test.YtfiljgkcipnghaaGreatDoorFault
import Derived.Laws.CopyRow
import Derived.Test.YtfiljgkcipnghaaGreatDoorWapp
import Derived.Lib.Builder
import Derived.Lib.AppendStr
import Derived.Lib.UnsafeStr
import Derived.Laws.Externs
import Derived.Deep.DeepFit
set_option linter.unusedVariables false
set_option linter.unusedSimpArgs false
namespace Go.Proofs.YtfiljgkcipnghaaGreatDoor.X
open Go.RowKit
/-- Where the machine lies, and what its fields hold; the parts' kids. -/
structure MM where
  P : Nat
  vt : Value
  vw : Value
  vp : Value
  vo : Value
  vf : Value
  kv : List Value
def wVal (k kind at_ : Int) (text : Bs) (num base : Int) : List Value := [.int .i64 k, .int .i64 kind, .int .i64 at_, .string ⟨text.toArray⟩, .int .i64 num, .int .i64 base]
def atV (ts : List Tk) : Option Nat → Int
  | none => -1
  | some i => (placeT ts i : Nat)
/-- The cells of what is awaited. -/
def wCells (ts : List Tk) : Wn → List Value
  | .expr => wVal 1 0 0 [] 0 0
  | .ors a b => wVal 2 5 (atV ts a) [] 0 (b : Nat)
  | .conj => wVal 3 0 0 [] 0 0
  | .ands a b => wVal 4 4 (atV ts a) [] 0 (b : Nat)
  | .unit => wVal 5 0 0 [] 0 0
  | .term => wVal 6 0 0 [] 0 0
  | .rel b => wVal 7 0 0 [] 0 (b : Nat)
  | .close => wVal 8 0 0 [] 0 0
  | .neg i b => wVal 9 0 (placeT ts i : Nat) [] 0 (b : Nat)
  | .part k s i b => wVal 10 k (placeT ts i : Nat) s 0 (b : Nat)
  | .cmp k n i b => wVal 11 k (placeT ts i : Nat) [] n (b : Nat)
  | .stop => wVal 12 0 0 [] 0 0
theorem wCells_len (ts : List Tk) (x : Wn) : (wCells ts x).length = 6 := by cases x <;> rfl
theorem wCells_one (ts : List Tk) (x : Wn) : ∀ u ∈ wCells ts x, u.oneCell' = true := by
  cases x <;> (intro u hu; simp only [wCells, wVal, List.mem_cons, List.not_mem_nil, or_false] at hu; rcases hu with rfl | rfl | rfl | rfl | rfl | rfl <;> rfl)
/-- The row of what is awaited: the next thing last. -/
def wRow (ts : List Tk) : List Wn → List Value
  | [] => []
  | x :: ws => wRow ts ws ++ wCells ts x
theorem wRow_len (ts : List Tk) : ∀ ws : List Wn, (wRow ts ws).length = ws.length * 6
  | [] => rfl
  | x :: ws => by simp only [wRow, List.length_append, wRow_len ts ws, wCells_len, List.length_cons]; omega
abbrev mcells (M : MM) (pos nest : Nat) : Array Value := #[M.vt, .int .i64 pos, M.vw, M.vp, M.vo, M.vf, .int .i64 nest, .int .i64 0, .int .i64 0, .string ⟨#[]⟩,
  .int .i64 0, .int .i64 0, .int .i64 0, .string ⟨#[]⟩, .int .i64 0, .int .i64 0, .int .i64 0, .string ⟨#[]⟩,
  .int .i64 0, .int .i64 0, .int .i64 0, .string ⟨#[]⟩, .int .i64 0, .int .i64 0, .int .i64 0, .string ⟨#[]⟩]
abbrev intRow (xs : List Nat) : List Value := xs.map fun i => Value.int .i64 (i : Nat)
/-- The machine's rows. -/
structure MRows (ts : List Tk) (B : Nat) (M : MM) (ws : List Wn) (fr : List Nat) (S : PS) (w : World) : Prop where
  toks : TokAt w M.vt ts
  tokB : ∀ k, M.vt.ownBlock = some k → k < B
  wants : w.ownsRow B 95 6 M.vw ws.length (wRow ts ws)
  parts : w.ownsRow B 49 4 M.vp S.parts.length (partRow S.parts M.kv)
  ats : w.ownsRow B 3 1 M.vo S.offs.length (S.offs.map fun i => Value.int .i64 (placeT ts i : Nat))
  free : w.ownsRow B 3 1 M.vf fr.length (intRow fr)
  klen : M.kv.length = S.parts.length
  kids : ∀ i (h : i < S.parts.length), kidRow w B (M.kv.getD i undef) S.parts[i].kids
  apart : (M.vo.ownBlock :: M.vf.ownBlock :: M.kv.map Value.ownBlock).Pairwise fun a b => a = none ∨ a ≠ b
  bsz : B ≤ w.heap.size
/-- The machine lies there and stands so. -/
structure MAt (ts : List Tk) (B : Nat) (M : MM) (ws : List Wn) (fr : List Nat) (S : PS) (w : World) : Prop where
  rows : MRows ts B M ws fr S w
  cells : w.heap[M.P]? = some (.cells (mcells M S.pos S.nest) 92 (0, 0))
  PB : B ≤ M.P
  pos : S.pos < ts.length
theorem own_type {w : World} {B e sz n : Nat} {v : Value} {xs : List Value} (h : w.ownsRow B e sz v n xs) {k : Nat} (hk : v.ownBlock = some k) : B ≤ k ∧ ∃ cs, w.heap[k]? = some (.cells cs e (0, 0)) := by
  rcases h.2 with ⟨h3, _⟩ | ⟨g', cap, cur, h3, h4, h5, _⟩
  · rw [h3] at hk; cases hk
  · rw [h3] at hk
    injection hk with hk
    subst hk
    exact ⟨h4, cur, h5⟩
/-- This block is new, or it holds something of another type. -/
def Other (w : World) (e : TypeId) (row : Option Nat) : Prop := ∀ k, row = some k → w.heap.size ≤ k ∨ ∃ cs e', w.heap[k]? = some (.cells cs e' (0, 0)) ∧ e' ≠ e
theorem own_other' {w w' : World} {B e sz n : Nat} {v : Value} {xs : List Value} (h : w.ownsRow B e sz v n xs) {row : Option Nat} (hg : w.grownBy w' row) (ho : Other w e row) : w'.ownsRow B e sz v n xs := by
  refine h.kept hg ?_
  cases hv : v.ownBlock with
  | none => exact .inl rfl
  | some k =>
    refine .inr (fun er => ?_)
    obtain ⟨_, cs, hc⟩ := own_type h hv
    rcases ho k er.symm with h1 | ⟨cs', e', h1, h2⟩
    · have := (Array.getElem?_eq_some_iff.1 hc).1; omega
    · rw [hc] at h1
      injection h1 with h1
      injection h1 with _ h1
      exact h2 h1.symm
theorem other_own {w : World} {B e e' sz n : Nat} {v : Value} {xs : List Value} (h : w.ownsRow B e' sz v n xs) (he : e' ≠ e) : Other w e v.ownBlock := fun k hk => by
  obtain ⟨_, cs, hc⟩ := own_type h hk
  exact .inr ⟨cs, e', hc, he⟩
theorem other_none {w : World} {e : TypeId} : Other w e none := fun k hk => by cases hk
theorem other_at {w : World} {e e' : TypeId} {g : Nat} {cs : Array Value} (h : w.heap[g]? = some (.cells cs e' (0, 0))) (he : e' ≠ e) : Other w e (some g) := fun k hk => by
  injection hk with hk; subst hk; exact .inr ⟨cs, e', h, he⟩
theorem toks_kept {ts : List Tk} {B : Nat} {w w' : World} {v : Value} (h : TokAt w v ts) (hB : ∀ k, v.ownBlock = some k → k < B) (hb : B ≤ w.heap.size) {row : Option Nat} (hg : w.grownBy w' row) (hr : ∀ k, row = some k → B ≤ k) : TokAt w' v ts :=
  h.stays (fun g e => hg.block g (by have := hB g e; omega) (fun e2 => by have h1 := hB g e; have h2 := hr g e2.symm; omega)) hg.size
/-- Something else has been turned. -/
theorem MRows.kept {ts : List Tk} {B : Nat} {M : MM} {ws : List Wn} {fr : List Nat} {S : PS} {w w' : World} (h : MRows ts B M ws fr S w) {row : Option Nat} (hg : w.grownBy w' row) (hr : ∀ k, row = some k → B ≤ k)
    (h1 : Other w 95 row) (h2 : Other w 49 row) (h3 : Other w 3 row) : MRows ts B M ws fr S w' :=
  ⟨toks_kept h.toks h.tokB h.bsz hg hr, h.tokB, own_other' h.wants hg h1, own_other' h.parts hg h2, own_other' h.ats hg h3, own_other' h.free hg h3, h.klen, fun i hi => own_other' (h.kids i hi) hg h3, h.apart, Nat.le_trans h.bsz hg.size⟩
theorem MRows.below {ts : List Tk} {B : Nat} {M : MM} {ws : List Wn} {fr : List Nat} {S : PS} {w w' : World} (h : MRows ts B M ws fr S w) (k : Below w.heap.size w w') : MRows ts B M ws fr S w' :=
  h.kept (row := none) ⟨k.os, k.tape, k.output, k.size, fun i hi _ => k.block i hi⟩ (fun _ e => by cases e) other_none other_none other_none
theorem MAt.lt {ts : List Tk} {B : Nat} {M : MM} {ws : List Wn} {fr : List Nat} {S : PS} {w : World} (h : MAt ts B M ws fr S w) : M.P < w.heap.size := (Array.getElem?_eq_some_iff.1 h.cells).1
theorem MAt.below {ts : List Tk} {B : Nat} {M : MM} {ws : List Wn} {fr : List Nat} {S : PS} {w w' : World} (h : MAt ts B M ws fr S w) (k : Below w.heap.size w w') : MAt ts B M ws fr S w' :=
  ⟨h.rows.below k, (k.block M.P h.lt).trans h.cells, h.PB, h.pos⟩
/-- The machine's own block has been turned: the rows stay. -/
theorem MRows.atP {ts : List Tk} {B : Nat} {M : MM} {ws : List Wn} {fr : List Nat} {S : PS} {w w' : World} (h : MRows ts B M ws fr S w) {cs : Array Value} (hc : w.heap[M.P]? = some (.cells cs 92 (0, 0))) (hB : B ≤ M.P) (hg : w.grownBy w' (some M.P)) : MRows ts B M ws fr S w' :=
  h.kept hg (fun k e => by injection e with e; omega) (other_at hc (by decide)) (other_at hc (by decide)) (other_at hc (by decide))
/-- The place has been turned. -/
theorem MAt.turnPos {ts : List Tk} {B : Nat} {M : MM} {ws : List Wn} {fr : List Nat} {S : PS} {w : World} (h : MAt ts B M ws fr S w) (p : Nat) (hp : p < ts.length) : MAt ts B M ws fr { S with pos := p } (w.setCell ⟨M.P, 1, none⟩ (.int .i64 (p : Nat))) := by
  have r := h.rows.atP h.cells h.PB (set_grown w M.P 1 (.int .i64 (p : Nat)))
  exact ⟨⟨r.toks, r.tokB, r.wants, r.parts, r.ats, r.free, r.klen, r.kids, r.apart, r.bsz⟩, heap_setCell_same _ _ _ _ _ _ h.cells, h.PB, hp⟩
/-- The nest has been turned. -/
theorem MAt.turnNest {ts : List Tk} {B : Nat} {M : MM} {ws : List Wn} {fr : List Nat} {S : PS} {w : World} (h : MAt ts B M ws fr S w) (n : Nat) : MAt ts B M ws fr { S with nest := n } (w.setCell ⟨M.P, 6, none⟩ (.int .i64 (n : Nat))) := by
  have r := h.rows.atP h.cells h.PB (set_grown w M.P 6 (.int .i64 (n : Nat)))
  exact ⟨⟨r.toks, r.tokB, r.wants, r.parts, r.ats, r.free, r.klen, r.kids, r.apart, r.bsz⟩, heap_setCell_same _ _ _ _ _ _ h.cells, h.PB, h.pos⟩
/-- One more thing is awaited. -/
theorem MAt.push {ts : List Tk} {B : Nat} {M : MM} {ws : List Wn} {fr : List Nat} {S : PS} {W w1 : World} (h : MAt ts B M ws fr S W) (x : Wn) (v1 : Value) (hg : W.grownBy w1 M.vw.ownBlock)
    (ho : w1.ownsRow B 95 6 v1 (ws.length + 1) (wRow ts ws ++ wCells ts x)) :
    w1.heap[M.P]? = some (.cells (mcells M S.pos S.nest) 92 (0, 0)) ∧ MAt ts B { M with vw := v1 } (x :: ws) fr S (w1.setCell ⟨M.P, 2, none⟩ v1) := by
  have r := h.rows
  have hr : ∀ k, M.vw.ownBlock = some k → B ≤ k := fun k e => (own_type r.wants e).1
  have hP : w1.heap[M.P]? = some (.cells (mcells M S.pos S.nest) 92 (0, 0)) := (hg.block _ h.lt (fun e => by
    obtain ⟨_, cs, hc⟩ := own_type r.wants e.symm
    rw [h.cells] at hc
    injection hc with hc; injection hc with _ hc
    exact absurd hc (by decide))).trans h.cells
  have o2 : Other W 49 M.vw.ownBlock := other_own r.wants (by decide)
  have o3 : Other W 3 M.vw.ownBlock := other_own r.wants (by decide)
  have r1 : MRows ts B { M with vw := v1 } (x :: ws) fr S w1 := ⟨toks_kept r.toks r.tokB r.bsz hg hr, r.tokB, ho, own_other' r.parts hg o2, own_other' r.ats hg o3, own_other' r.free hg o3, r.klen, fun i hi => own_other' (r.kids i hi) hg o3, r.apart, Nat.le_trans r.bsz hg.size⟩
  exact ⟨hP, r1.atP (M := { M with vw := v1 }) hP h.PB (set_grown w1 M.P 2 v1), heap_setCell_same _ _ _ _ _ _ hP, h.PB, h.pos⟩
/-- The next thing is no longer awaited. -/
theorem MAt.pop {ts : List Tk} {B : Nat} {M : MM} {x : Wn} {ws : List Wn} {fr : List Nat} {S : PS} {w : World} (h : MAt ts B M (x :: ws) fr S w) : ∃ g cap, M.vw = .slice (some ⟨g, 0, none⟩) (ws.length + 1) cap ∧ ws.length + 1 ≤ cap ∧ cap ≤ maxLen ∧ g < w.heap.size ∧
    (∀ j u, (wCells ts x)[j]? = some u → w.cell? ⟨g, ws.length * 6 + j, none⟩ = some u) ∧ MAt ts B { M with vw := .slice (some ⟨g, 0, none⟩) ws.length cap } ws fr S (w.setCell ⟨M.P, 2, none⟩ (.slice (some ⟨g, 0, none⟩) ws.length cap)) := by
  have r := h.rows
  rcases r.wants.2 with ⟨_, h2⟩ | ⟨g, cap, cur, h3, h4, h5, h6, h7, h8, h9⟩
  · simp at h2
  · refine ⟨g, cap, h3, by simpa using h6, h7, (Array.getElem?_eq_some_iff.1 h5).1, fun j u hu => ?_, ?_⟩
    · have hj : j < 6 := by rw [← wCells_len ts x]; exact (List.getElem?_eq_some_iff.1 hu).1
      rw [Lib.cell_of_heap h5]
      have e : cur.toList[ws.length * 6 + j]? = (wRow ts (x :: ws))[ws.length * 6 + j]? := by
        rw [← h9, List.getElem?_take, if_pos (by simp only [List.length_cons]; omega)]
      rw [← Array.getElem?_toList, e]
      simp only [wRow]
      rw [List.getElem?_append_right (by rw [wRow_len]; omega), wRow_len, Nat.add_sub_cancel_left]
      exact hu
    · have hw : w.ownsRow B 95 6 (.slice (some ⟨g, 0, none⟩) ws.length cap) ws.length (wRow ts ws) := by
        refine ⟨wRow_len ts ws, .inr ⟨g, cap, cur, rfl, h4, h5, by simp only [List.length_cons] at h6; omega, h7, h8, ?_⟩⟩
        have h10 := congrArg (List.take (ws.length * 6)) h9
        rw [List.take_take, Nat.min_eq_left (by simp only [List.length_cons]; omega)] at h10
        rw [h10]
        simp only [wRow]
        rw [List.take_left' (wRow_len ts ws)]
      have r1 : MRows ts B { M with vw := .slice (some ⟨g, 0, none⟩) ws.length cap } ws fr S w := ⟨r.toks, r.tokB, hw, r.parts, r.ats, r.free, r.klen, r.kids, r.apart, r.bsz⟩
      exact ⟨r1.atP (M := { M with vw := .slice (some ⟨g, 0, none⟩) ws.length cap }) h.cells h.PB (set_grown w M.P 2 _), heap_setCell_same _ _ _ _ _ _ h.cells, h.PB, h.pos⟩

end Go.Proofs.YtfiljgkcipnghaaGreatDoor.X
set_option linter.unusedVariables false
set_option linter.unusedSimpArgs false
namespace Go.Proofs.YtfiljgkcipnghaaGreatDoor.X
open Go.RowKit
/-- The blocks of the machine's rows of numbers. -/
abbrev iblocks (M : MM) : List (Option Nat) := M.vo.ownBlock :: M.vf.ownBlock :: M.kv.map Value.ownBlock
theorem mkv_mem {kv : List Value} {i : Nat} (h : i < kv.length) : kv.getD i undef ∈ kv := by
  rw [List.getD_eq_getElem?_getD, List.getElem?_eq_getElem h]; exact List.getElem_mem h
theorem MRows.ilt {ts : List Tk} {B : Nat} {M : MM} {ws : List Wn} {fr : List Nat} {S : PS} {w : World} (h : MRows ts B M ws fr S w) : ∀ b ∈ iblocks M, ∀ k, b = some k → B ≤ k ∧ ∃ cs, w.heap[k]? = some (.cells cs 3 (0, 0)) := by
  intro b hb k hk
  subst hk
  simp only [iblocks, List.mem_cons, List.mem_map] at hb
  rcases hb with e | e | ⟨v, hv, e⟩
  · exact own_type h.ats e.symm
  · exact own_type h.free e.symm
  · obtain ⟨i, hi, rfl⟩ := List.getElem_of_mem hv
    have := h.kids i (by rw [← h.klen]; exact hi)
    rw [List.getD_eq_getElem?_getD, List.getElem?_eq_getElem hi] at this
    exact own_type this e
theorem MRows.fresh {ts : List Tk} {B : Nat} {M : MM} {ws : List Wn} {fr : List Nat} {S : PS} {w : World} (h : MRows ts B M ws fr S w) {r : Nat} (hr : w.heap.size ≤ r) : ∀ b ∈ iblocks M, b ≠ some r := by
  intro b hb e
  obtain ⟨_, cs, hc⟩ := h.ilt b hb r e
  have := (Array.getElem?_eq_some_iff.1 hc).1
  omega
/-- The free parts are another row now. -/
theorem MAt.newFree {ts : List Tk} {B : Nat} {M : MM} {ws : List Wn} {fr fr' : List Nat} {S : PS} {W : World} (h : MAt ts B M ws fr S W) (v1 : Value) (ho : W.ownsRow B 3 1 v1 fr'.length (intRow fr')) (hne : ∀ b ∈ iblocks M, b = none ∨ b ≠ v1.ownBlock) :
    MAt ts B { M with vf := v1 } ws fr' S (W.setCell ⟨M.P, 5, none⟩ v1) := by
  have r := h.rows
  have hp := List.pairwise_cons.1 r.apart
  have hp2 := List.pairwise_cons.1 hp.2
  have r1 : MRows ts B { M with vf := v1 } ws fr' S W := ⟨r.toks, r.tokB, r.wants, r.parts, r.ats, ho, r.klen, r.kids, by
    refine List.pairwise_cons.2 ⟨fun b hb => ?_, List.pairwise_cons.2 ⟨fun b hb => ?_, hp2.2⟩⟩
    · rcases List.mem_cons.1 hb with e | hb
      · rw [e]; exact hne _ (by simp)
      · exact hp.1 b (List.mem_cons_of_mem _ hb)
    · rcases hne b (List.mem_cons_of_mem _ (List.mem_cons_of_mem _ hb)) with e | e
      · cases hv : v1.ownBlock with
        | none => exact .inl rfl
        | some k => right; rw [e]; simp
      · exact .inr (fun e2 => e e2.symm), r.bsz⟩
  exact ⟨r1.atP (M := { M with vf := v1 }) h.cells h.PB (set_grown W M.P 5 v1), heap_setCell_same _ _ _ _ _ _ h.cells, h.PB, h.pos⟩
/-- One part more. -/
theorem MAt.addPart {ts : List Tk} {B : Nat} {M : MM} {ws : List Wn} {fr : List Nat} {S : PS} {W w1 : World} (h : MAt ts B M ws fr S W) (p : PD) (v1 vk : Value) (hk : kidRow W B vk p.kids) (hne : ∀ b ∈ iblocks M, b = none ∨ b ≠ vk.ownBlock) (hg : W.grownBy w1 M.vp.ownBlock)
    (ho : w1.ownsRow B 49 4 v1 (S.parts.length + 1) (partRow S.parts M.kv ++ partCells p vk)) :
    w1.heap[M.P]? = some (.cells (mcells M S.pos S.nest) 92 (0, 0)) ∧ MAt ts B { M with vp := v1, kv := M.kv ++ [vk] } ws fr { S with parts := S.parts ++ [p] } (w1.setCell ⟨M.P, 3, none⟩ v1) := by
  have r := h.rows
  have hr : ∀ k, M.vp.ownBlock = some k → B ≤ k := fun k e => (own_type r.parts e).1
  have hP : w1.heap[M.P]? = some (.cells (mcells M S.pos S.nest) 92 (0, 0)) := (hg.block _ h.lt (fun e => by
    obtain ⟨_, cs, hc⟩ := own_type r.parts e.symm
    rw [h.cells] at hc
    injection hc with hc; injection hc with _ hc
    exact absurd hc (by decide))).trans h.cells
  have o2 : Other W 95 M.vp.ownBlock := other_own r.parts (by decide)
  have o3 : Other W 3 M.vp.ownBlock := other_own r.parts (by decide)
  have r1 : MRows ts B { M with vp := v1, kv := M.kv ++ [vk] } ws fr { S with parts := S.parts ++ [p] } w1 := by
    refine ⟨toks_kept r.toks r.tokB r.bsz hg hr, r.tokB, own_other' r.wants hg o2, ?_, own_other' r.ats hg o3, own_other' r.free hg o3, by simp [r.klen], fun i hi => ?_, ?_, Nat.le_trans r.bsz hg.size⟩
    · rw [List.length_append, partRow_snoc _ _ _ _ r.klen]; exact ho
    · by_cases e : i < S.parts.length
      · have e1 : (M.kv ++ [vk]).getD i undef = M.kv.getD i undef := by
          simp [List.getD_eq_getElem?_getD, List.getElem?_append_left (show i < M.kv.length by rw [r.klen]; exact e)]
        have e2 : (S.parts ++ [p])[i] = S.parts[i] := List.getElem_append_left e
        show kidRow w1 B ((M.kv ++ [vk]).getD i undef) (S.parts ++ [p])[i].kids
        rw [e1, e2]
        exact own_other' (r.kids i e) hg o3
      · have e0 : i = S.parts.length := by simp at hi; omega
        have e1 : (M.kv ++ [vk]).getD i undef = vk := by
          rw [e0, ← r.klen]; simp [List.getD_eq_getElem?_getD]
        have e2 : (S.parts ++ [p])[i] = p := by simp [e0]
        show kidRow w1 B ((M.kv ++ [vk]).getD i undef) (S.parts ++ [p])[i].kids
        rw [e1, e2]
        exact own_other' hk hg o3
    · show (M.vo.ownBlock :: M.vf.ownBlock :: (M.kv ++ [vk]).map Value.ownBlock).Pairwise _
      rw [List.map_append, List.map_singleton, ← List.cons_append, ← List.cons_append]
      refine List.pairwise_append.2 ⟨r.apart, List.pairwise_singleton _ _, fun a ha b hb => ?_⟩
      obtain rfl : b = vk.ownBlock := by simpa using hb
      exact hne a ha
  exact ⟨hP, r1.atP (M := { M with vp := v1, kv := M.kv ++ [vk] }) hP h.PB (set_grown w1 M.P 3 v1), heap_setCell_same _ _ _ _ _ _ hP, h.PB, h.pos⟩
/-- One place more. -/
theorem MAt.addAt {ts : List Tk} {B : Nat} {M : MM} {ws : List Wn} {fr : List Nat} {S : PS} {W w1 : World} (h : MAt ts B M ws fr S W) (at_ : Nat) (v1 : Value) (hg : W.grownBy w1 M.vo.ownBlock)
    (ho : w1.ownsRow B 3 1 v1 (S.offs.length + 1) ((S.offs.map fun i => Value.int .i64 (placeT ts i : Nat)) ++ [Value.int .i64 (placeT ts at_ : Nat)])) (hat : v1.ownBlock = M.vo.ownBlock ∨ v1.ownBlock = some W.heap.size) :
    w1.heap[M.P]? = some (.cells (mcells M S.pos S.nest) 92 (0, 0)) ∧ MAt ts B { M with vo := v1 } ws fr { S with offs := S.offs ++ [at_] } (w1.setCell ⟨M.P, 4, none⟩ v1) := by
  have r := h.rows
  have hr : ∀ k, M.vo.ownBlock = some k → B ≤ k := fun k e => (own_type r.ats e).1
  have hP : w1.heap[M.P]? = some (.cells (mcells M S.pos S.nest) 92 (0, 0)) := (hg.block _ h.lt (fun e => by
    obtain ⟨_, cs, hc⟩ := own_type r.ats e.symm
    rw [h.cells] at hc
    injection hc with hc; injection hc with _ hc
    exact absurd hc (by decide))).trans h.cells
  have o1 : Other W 95 M.vo.ownBlock := other_own r.ats (by decide)
  have o2 : Other W 49 M.vo.ownBlock := other_own r.ats (by decide)
  have hp := List.pairwise_cons.1 r.apart
  have ne : ∀ {v : Value}, v.ownBlock ∈ M.vf.ownBlock :: M.kv.map Value.ownBlock → v.ownBlock = none ∨ v.ownBlock ≠ M.vo.ownBlock := fun {v} hv => by
    rcases hp.1 _ hv with e | e
    · cases hb : v.ownBlock with
      | none => exact .inl rfl
      | some k => right; rw [e]; simp
    · exact .inr (fun e2 => e e2.symm)
  have r1 : MRows ts B { M with vo := v1 } ws fr { S with offs := S.offs ++ [at_] } w1 := by
    refine ⟨toks_kept r.toks r.tokB r.bsz hg hr, r.tokB, own_other' r.wants hg o1, own_other' r.parts hg o2, by simpa using ho, r.free.kept hg (ne (by simp)), r.klen, fun i hi => (r.kids i hi).kept hg (ne ?_), ?_, Nat.le_trans r.bsz hg.size⟩
    · simp only [List.mem_cons, List.mem_map]
      exact .inr ⟨_, mkv_mem (by rw [r.klen]; exact hi), rfl⟩
    · refine List.pairwise_cons.2 ⟨fun b hb => ?_, hp.2⟩
      rcases hat with e | e
      · have := hp.1 b hb
        rw [← e] at this
        exact this
      · right
        show v1.ownBlock ≠ b
        rw [e]
        exact fun e2 => r.fresh (Nat.le_refl _) b (List.mem_cons_of_mem _ hb) e2.symm
  exact ⟨hP, r1.atP (M := { M with vo := v1 }) hP h.PB (set_grown w1 M.P 4 v1), heap_setCell_same _ _ _ _ _ _ hP, h.PB, h.pos⟩

end Go.Proofs.YtfiljgkcipnghaaGreatDoor.X
set_option linter.unusedVariables false
set_option linter.unusedSimpArgs false
namespace Go.Proofs.YtfiljgkcipnghaaGreatDoor.X
open Go.RowKit
/-- The next token, as the machine finds it. -/
theorem MAt.tok {ts : List Tk} {B : Nat} {M : MM} {ws : List Wn} {fr : List Nat} {S : PS} {w : World} (h : MAt ts B M ws fr S w) : ∃ g cap, w.cell? ⟨M.P, 0, none⟩ = some (.slice (some ⟨g, 0, none⟩) ts.length cap) ∧ w.cell? ⟨M.P, 1, none⟩ = some (.int .i64 S.pos) ∧ g < w.heap.size ∧
    w.cell? ⟨g, S.pos * 5, none⟩ = some (.int .i64 (pk ts S).kind) ∧ w.cell? ⟨g, S.pos * 5 + 1, none⟩ = some (.string ⟨(pk ts S).text.toArray⟩) ∧ w.cell? ⟨g, S.pos * 5 + 2, none⟩ = some (.int .i64 (pk ts S).num) ∧
    w.cell? ⟨g, S.pos * 5 + 3, none⟩ = some (.int .i64 (pk ts S).at_) ∧ w.cell? ⟨g, S.pos * 5 + 4, none⟩ = some (.int .i64 (pk ts S).end_) := by
  have hp := h.pos
  rcases h.rows.toks with ⟨_, he⟩ | ⟨g, cap, hv, hg, hc⟩
  · rw [he] at hp; simp at hp
  have hcs := h.cells
  have hcc := hc S.pos hp
  rw [pk_eq hp]
  exact ⟨g, cap, by rw [← hv]; exact (Lib.cell_of_heap hcs _).trans rfl, (Lib.cell_of_heap hcs _).trans rfl, hg, hcc 0 _ rfl, hcc 1 _ rfl, hcc 2 _ rfl, hcc 3 _ rfl, hcc 4 _ rfl⟩
set_option maxHeartbeats 4000000 in
set_option maxRecDepth 100000 in
theorem m_mark {ts : List Tk} {B : Nat} {M : MM} {ws : List Wn} {fr : List Nat} {S : PS} {w : World} (h : MAt ts B M ws fr S w) (hT : TOK ts) (text : ByteArray) :
    Calls Tryz.prog 76 #[.pointer (some ⟨M.P, 0, none⟩), .string text] w fun e w' => e = .returned (.bool (isT ts S 4 text.data.toList)) ∧ Below w.heap.size w w' := by
  obtain ⟨g, cap, c0, c1, hg, a0, a1, a2, a3, a4⟩ := h.tok
  have hp := h.pos
  have hl := hT.len
  have hz := h.lt
  have hI : (S.pos : Int) < (ts.length : Int) := by omega
  unfold isT
  generalize pk ts S = t at *
  generalize M.P = P at *
  generalize S.pos = p at *
  clear h
  by_cases hk : t.kind = 4
  · have e0 : (t.kind == 4) = true := by simpa using hk
    have HE : Hid ((t.kind == 4) = true) := Lib.hid e0
    go_enter Tryz.func76, Tryz.ntmps76
    go_wp2
    go_region
    all_goals go_wp2
    go_ret
    exact ⟨by simp [ByteArray.toList_eq, HE.out], ((Below.refl _ _).alloc (Nat.le_refl _) _).drew⟩
  · have e0 : (t.kind == 4) = false := by simpa using hk
    go_enter Tryz.func76, Tryz.ntmps76
    go_wp2
    go_region
    all_goals go_wp2
    go_ret
    exact ⟨by simp [hk], ((Below.refl _ _).alloc (Nat.le_refl _) _).drew⟩
set_option maxHeartbeats 4000000 in
set_option maxRecDepth 100000 in
theorem m_word {ts : List Tk} {B : Nat} {M : MM} {ws : List Wn} {fr : List Nat} {S : PS} {w : World} (h : MAt ts B M ws fr S w) (hT : TOK ts) (text : ByteArray) :
    Calls Tryz.prog 85 #[.pointer (some ⟨M.P, 0, none⟩), .string text] w fun e w' => e = .returned (.bool (isT ts S 3 text.data.toList)) ∧ Below w.heap.size w w' := by
  obtain ⟨g, cap, c0, c1, hg, a0, a1, a2, a3, a4⟩ := h.tok
  have hp := h.pos
  have hl := hT.len
  have hz := h.lt
  have hI : (S.pos : Int) < (ts.length : Int) := by omega
  unfold isT
  generalize pk ts S = t at *
  generalize M.P = P at *
  generalize S.pos = p at *
  clear h
  by_cases hk : t.kind = 3
  · have e0 : (t.kind == 3) = true := by simpa using hk
    have HE : Hid ((t.kind == 3) = true) := Lib.hid e0
    go_enter Tryz.func85, Tryz.ntmps85
    go_wp2
    go_region
    all_goals go_wp2
    go_ret
    exact ⟨by simp [ByteArray.toList_eq, HE.out], ((Below.refl _ _).alloc (Nat.le_refl _) _).drew⟩
  · have e0 : (t.kind == 3) = false := by simpa using hk
    go_enter Tryz.func85, Tryz.ntmps85
    go_wp2
    go_region
    all_goals go_wp2
    go_ret
    exact ⟨by simp [hk], ((Below.refl _ _).alloc (Nat.le_refl _) _).drew⟩
/-- The machine has failed. -/
def MFault (ts : List Tk) (P : Nat) (f : PF) (w : World) : Prop := ∃ pre : List Value, pre.length = 7 ∧ w.heap[P]? = some (.cells (pre ++ H.flist f.1 (placeT ts f.2 : Nat) ⟨#[]⟩).toArray 92 (0, 0))
/-- The machine's block, its fault laid. -/
def mset (W : World) (M : MM) (pos nest : Nat) (c a : Int) : World := W.setRow M.P ((mcells M pos nest).toList.take 7 ++ H.flist c a ⟨#[]⟩).toArray
theorem mst {W : World} {M : MM} {pos nest : Nat} (h : W.heap[M.P]? = some (.cells (mcells M pos nest) 92 (0, 0))) (c a : Int) : (storeCells ⟨M.P, 7, none⟩ (H.flist c a ⟨#[]⟩)).run Tryz.prog W = .ok () (mset W M pos nest c a) := by
  have h1 := run_storeCells_at (P := Tryz.prog) M.P 7 92 (H.flist c a ⟨#[]⟩) 0 (mcells M pos nest) W h (by simp) (fun v hv => by simp only [H.flist, List.mem_cons, List.not_mem_nil, or_false] at hv; rcases hv with rfl | rfl | rfl | rfl | rfl | rfl | rfl | rfl | rfl | rfl | rfl | rfl | rfl | rfl | rfl | rfl | rfl | rfl | rfl <;> rfl)
  rw [h1]
  unfold mset
  rfl
theorem heap_after {w : World} {M : MM} {pos nest : Nat} (h : w.heap[M.P]? = some (.cells (mcells M pos nest) 92 (0, 0))) (o : Obj) : (w.alloc o).drew.heap[M.P]? = some (.cells (mcells M pos nest) 92 (0, 0)) := by
  have h1 : (w.alloc o).heap[M.P]? = w.heap[M.P]? := Below.heap_alloc _ _ _ (Array.getElem?_eq_some_iff.1 h).1
  exact h1.trans h
theorem mset_fault {ts : List Tk} {W : World} {M : MM} {pos nest : Nat} (h : W.heap[M.P]? = some (.cells (mcells M pos nest) 92 (0, 0))) (f : PF) : MFault ts M.P f (mset W M pos nest f.1 (placeT ts f.2 : Nat)) :=
  ⟨_, by simp, setRow_heap _ _ _ _ _ _ h⟩
theorem mset_below {B : Nat} {w W : World} {M : MM} {pos nest : Nat} {c a : Int} (h : Below B w W) (hB : B ≤ M.P) : Below B w (mset W M pos nest c a) :=
  h.trans ⟨rfl, rfl, rfl, by simp [mset, World.setRow], fun k hk => setRow_other _ _ _ _ (by omega)⟩
theorem cell_b {w W : World} (k : Below w.heap.size w W) {a : Addr} {u : Value} (h : w.cell? a = some u) : W.cell? a = some u := (k.cell (World.block_lt_of_cell? w a h)).trans h
theorem ld5 {w : World} {g o : Nat} {k n x y : Int} {s : ByteArray} (a0 : w.cell? ⟨g, o, none⟩ = some (.int .i64 k)) (a1 : w.cell? ⟨g, o + 1, none⟩ = some (.string s)) (a2 : w.cell? ⟨g, o + 2, none⟩ = some (.int .i64 n)) (a3 : w.cell? ⟨g, o + 3, none⟩ = some (.int .i64 x)) (a4 : w.cell? ⟨g, o + 4, none⟩ = some (.int .i64 y)) :
    (loadCells ⟨g, o, none⟩ 5).run Tryz.prog w = .ok #[.int .i64 k, .string s, .int .i64 n, .int .i64 x, .int .i64 y] w := by
  have h := run_loadCells_list (P := Tryz.prog) w ⟨g, o, none⟩ [.int .i64 k, .string s, .int .i64 n, .int .i64 x, .int .i64 y] (fun j v hv => by
    have hadd : (⟨g, o, none⟩ : Addr).add j = ⟨g, o + j, none⟩ := by unfold Addr.add; split <;> simp_all
    rw [hadd]
    match j, hv with
    | 0, hv => obtain rfl := Option.some.inj hv; exact a0
    | 1, hv => obtain rfl := Option.some.inj hv; exact a1
    | 2, hv => obtain rfl := Option.some.inj hv; exact a2
    | 3, hv => obtain rfl := Option.some.inj hv; exact a3
    | 4, hv => obtain rfl := Option.some.inj hv; exact a4)
  exact h
theorem st5 (w : World) (k n x y : Int) (s : ByteArray) : (storeCells ⟨w.heap.size, 0, none⟩ [.int .i64 k, .string s, .int .i64 n, .int .i64 x, .int .i64 y]).run Tryz.prog (w.alloc (.cells #[.int .i64 0, .string ⟨#[]⟩, .int .i64 0, .int .i64 0, .int .i64 0] 73)) = .ok () (w.alloc (.cells #[.int .i64 k, .string s, .int .i64 n, .int .i64 x, .int .i64 y] 73)) := by
  simp [go_sem]
theorem st5d (w : World) (k n x y : Int) (s : ByteArray) : (storeCells ⟨w.heap.size, 0, none⟩ [.int .i64 k, .string s, .int .i64 n, .int .i64 x, .int .i64 y]).run Tryz.prog (w.alloc (.cells #[.int .i64 0, .string ⟨#[]⟩, .int .i64 0, .int .i64 0, .int .i64 0] 73)).drew = .ok () (w.alloc (.cells #[.int .i64 k, .string s, .int .i64 n, .int .i64 x, .int .i64 y] 73)).drew := by
  simp [go_sem]
section
attribute [-go_sem] storeCells loadCells loadCellsFrom
attribute [local go_sem] st5 st5d
set_option maxHeartbeats 4000000 in
set_option maxRecDepth 100000 in
theorem m_fail {ts : List Tk} {B : Nat} {M : MM} {ws : List Wn} {fr : List Nat} {S : PS} {w : World} (h : MAt ts B M ws fr S w) (hT : TOK ts) (c : Int) (hc : ¬ c = 120) :
    Calls Tryz.prog 58 #[.pointer (some ⟨M.P, 0, none⟩), .int .i64 c] w fun e w' => e = .returned (.tuple #[]) ∧ MFault ts M.P (c, S.pos) w' ∧ Below B w w' := by
  obtain ⟨g, cap, c0, c1, hg, a0, a1, a2, a3, a4⟩ := h.tok
  have hp := h.pos
  have hl := hT.len
  have hz := h.lt
  have hI : (S.pos : Int) < (ts.length : Int) := by omega
  have HH := Lib.hid h
  have HPL : Hid ((placeT ts S.pos : Nat) = (pk ts S).at_) := Lib.hid rfl
  have l5 := ld5 a0 a1 a2 a3 a4
  have b1 : Below w.heap.size w w.drew := (Below.refl _ _).drew
  have b2 : Below w.heap.size w (w.alloc (.cells #[.int .i64 0, .string ⟨#[]⟩, .int .i64 0, .int .i64 0, .int .i64 0] 73)).drew := ((Below.refl _ _).alloc (Nat.le_refl _) _).drew
  have l5d := ld5 (cell_b b1 a0) (cell_b b1 a1) (cell_b b1 a2) (cell_b b1 a3) (cell_b b1 a4)
  have l5a := ld5 (cell_b b2 a0) (cell_b b2 a1) (cell_b b2 a2) (cell_b b2 a3) (cell_b b2 a4)
  clear b1 b2
  have hst : ∀ c' a' : Int, (storeCells ⟨M.P, 7, none⟩ (H.flist c' a' ⟨#[]⟩)).run Tryz.prog (w.alloc (.cells #[.int .i64 (pk ts S).kind, .string ⟨(pk ts S).text.toArray⟩, .int .i64 (pk ts S).num, .int .i64 ((pk ts S).at_ : Nat), .int .i64 ((pk ts S).end_ : Nat)] 73)).drew = .ok () (mset (w.alloc (.cells #[.int .i64 (pk ts S).kind, .string ⟨(pk ts S).text.toArray⟩, .int .i64 (pk ts S).num, .int .i64 ((pk ts S).at_ : Nat), .int .i64 ((pk ts S).end_ : Nat)] 73)).drew M S.pos S.nest c' a') :=
    fun c' a' => mst (heap_after h.cells _) c' a'
  clear h
  generalize pk ts S = t at *
  go_enter Tryz.func58, Tryz.ntmps58
  go_wp2
  go_region
  all_goals go_wp2
  go_end0
  refine ⟨rfl, ?_, mset_below (((Below.refl _ _).alloc HH.out.rows.bsz _).drew) HH.out.PB⟩
  rw [← HPL.out]
  exact mset_fault (M := M) (f := (c, S.pos)) (heap_after HH.out.cells _)
set_option maxHeartbeats 4000000 in
set_option maxRecDepth 100000 in
theorem m_wrong {ts : List Tk} {B : Nat} {M : MM} {ws : List Wn} {fr : List Nat} {S : PS} {w : World} (h : MAt ts B M ws fr S w) (hT : TOK ts) :
    Calls Tryz.prog 58 #[.pointer (some ⟨M.P, 0, none⟩), .int .i64 120] w fun e w' => e = .returned (.tuple #[]) ∧ MFault ts M.P (wrongP ts S) w' ∧ Below B w w' := by
  obtain ⟨g, cap, c0, c1, hg, a0, a1, a2, a3, a4⟩ := h.tok
  have hp := h.pos
  have hl := hT.len
  have hz := h.lt
  have hI : (S.pos : Int) < (ts.length : Int) := by omega
  have HH := Lib.hid h
  have HPL : Hid ((placeT ts S.pos : Nat) = (pk ts S).at_) := Lib.hid rfl
  have l5 := ld5 a0 a1 a2 a3 a4
  have b1 : Below w.heap.size w w.drew := (Below.refl _ _).drew
  have b2 : Below w.heap.size w (w.alloc (.cells #[.int .i64 0, .string ⟨#[]⟩, .int .i64 0, .int .i64 0, .int .i64 0] 73)).drew := ((Below.refl _ _).alloc (Nat.le_refl _) _).drew
  have l5d := ld5 (cell_b b1 a0) (cell_b b1 a1) (cell_b b1 a2) (cell_b b1 a3) (cell_b b1 a4)
  have l5a := ld5 (cell_b b2 a0) (cell_b b2 a1) (cell_b b2 a2) (cell_b b2 a3) (cell_b b2 a4)
  clear b1 b2
  have hst : ∀ c' a' : Int, (storeCells ⟨M.P, 7, none⟩ (H.flist c' a' ⟨#[]⟩)).run Tryz.prog (w.alloc (.cells #[.int .i64 (pk ts S).kind, .string ⟨(pk ts S).text.toArray⟩, .int .i64 (pk ts S).num, .int .i64 ((pk ts S).at_ : Nat), .int .i64 ((pk ts S).end_ : Nat)] 73)).drew = .ok () (mset (w.alloc (.cells #[.int .i64 (pk ts S).kind, .string ⟨(pk ts S).text.toArray⟩, .int .i64 (pk ts S).num, .int .i64 ((pk ts S).at_ : Nat), .int .i64 ((pk ts S).end_ : Nat)] 73)).drew M S.pos S.nest c' a') :=
    fun c' a' => mst (heap_after h.cells _) c' a'
  have hw : wrongP ts S = if (pk ts S).kind = 0 then (121, S.pos) else (120, S.pos) := rfl
  rw [hw]
  clear h hw
  generalize pk ts S = t at *
  by_cases hk : t.kind = 0
  · have e0 : (t.kind == 0) = true := by simpa using hk
    rw [if_pos hk]
    clear hk
    go_enter Tryz.func58, Tryz.ntmps58
    go_wp2
    go_region
    all_goals go_wp2
    go_end0
    refine ⟨rfl, ?_, mset_below (((Below.refl _ _).alloc HH.out.rows.bsz _).drew) HH.out.PB⟩
    rw [← HPL.out]
    exact mset_fault (M := M) (f := (121, S.pos)) (heap_after HH.out.cells _)
  · have e0 : (t.kind == 0) = false := by simpa using hk
    rw [if_neg hk]
    clear hk
    go_enter Tryz.func58, Tryz.ntmps58
    go_wp2
    go_region
    all_goals go_wp2
    go_end0
    refine ⟨rfl, ?_, mset_below (((Below.refl _ _).alloc HH.out.rows.bsz _).drew) HH.out.PB⟩
    rw [← HPL.out]
    exact mset_fault (M := M) (f := (120, S.pos)) (heap_after HH.out.cells _)
end

end Go.Proofs.YtfiljgkcipnghaaGreatDoor.X
set_option linter.unusedVariables false
set_option linter.unusedSimpArgs false
namespace Go.Proofs.YtfiljgkcipnghaaGreatDoor.X
open Go.RowKit
/-- What a small step of the machine answers: it went on, or it failed. -/
def MStep (ts : List Tk) (B : Nat) (M : MM) (ws : List Wn) (fr : List Nat) (w : World) (r : Except PF PS) (e : Ending) (w' : World) : Prop := match r with
  | .ok S1 => e = .returned (.bool true) ∧ MAt ts B M ws fr S1 w' ∧ Below B w w'
  | .error f => e = .returned (.bool false) ∧ MFault ts M.P f w' ∧ Below B w w'
theorem MAt.bsz {ts : List Tk} {B : Nat} {M : MM} {ws : List Wn} {fr : List Nat} {S : PS} {w : World} (h : MAt ts B M ws fr S w) : B ≤ w.heap.size := h.rows.bsz
theorem MAt.c1 {ts : List Tk} {B : Nat} {M : MM} {ws : List Wn} {fr : List Nat} {S : PS} {w : World} (h : MAt ts B M ws fr S w) : w.cell? ⟨M.P, 1, none⟩ = some (.int .i64 S.pos) := (Lib.cell_of_heap h.cells _).trans rfl
theorem MAt.c6 {ts : List Tk} {B : Nat} {M : MM} {ws : List Wn} {fr : List Nat} {S : PS} {w : World} (h : MAt ts B M ws fr S w) : w.cell? ⟨M.P, 6, none⟩ = some (.int .i64 S.nest) := (Lib.cell_of_heap h.cells _).trans rfl
theorem MAt.cf {ts : List Tk} {B : Nat} {M : MM} {ws : List Wn} {fr : List Nat} {S : PS} {w : World} (h : MAt ts B M ws fr S w) : ∀ j, w.frozen? ⟨M.P, j, none⟩ = false := fun j => by simp [World.frozen?, h.cells]
theorem MAt.onS {ts : List Tk} {B : Nat} {M : MM} {ws : List Wn} {fr : List Nat} {S : PS} {w : World} (h : MAt ts B M ws fr S w) (hp : S.pos + 1 < ts.length) : MAt ts B M ws fr (on S) (w.setCell ⟨M.P, 1, none⟩ (.int .i64 (S.pos + 1))) := h.turnPos (S.pos + 1) hp
set_option maxHeartbeats 4000000 in
set_option maxRecDepth 100000 in
theorem m_take {ts : List Tk} {B : Nat} {M : MM} {ws : List Wn} {fr : List Nat} {S : PS} {w : World} (h : MAt ts B M ws fr S w) (hT : TOK ts) (text : ByteArray) :
    Calls Tryz.prog 56 #[.pointer (some ⟨M.P, 0, none⟩), .string text] w (MStep ts B M ws fr w (markP ts text.data.toList S)) := by
  have MC := Lib.hid (m_mark h hT text)
  have HH := Lib.hid h
  have hl := hT.len
  have hpl := h.pos
  unfold markP
  cases hi : isT ts S 4 text.data.toList with
  | true =>
    rw [hi] at MC
    have hp2 := pos_next hT h.pos (by rw [isT_kind hi]; decide)
    simp only [if_true, MStep]
    clear hi h
    go_enter Tryz.func56, Tryz.ntmps56
    go_wp2_with fail
    refine MC.out.mono ?_
    rintro e w2 ⟨rfl, hB⟩
    have H2 := Lib.hid (HH.out.below hB)
    have B2 := Lib.hid (hB.mono HH.out.bsz)
    have c1 := H2.out.c1
    have cf := H2.out.cf
    have hz2 := H2.out.lt
    clear hB
    go_wp2
    go_ret
    exact ⟨rfl, H2.out.onS hp2, B2.out.setCell (p := ⟨M.P, 1, none⟩) H2.out.PB _⟩
  | false =>
    rw [hi] at MC
    simp only [Bool.false_eq_true, if_false, MStep]
    clear hi h
    go_enter Tryz.func56, Tryz.ntmps56
    go_wp2_with fail
    refine MC.out.mono ?_
    rintro e w2 ⟨rfl, hB⟩
    have H2 := Lib.hid (HH.out.below hB)
    have B2 := Lib.hid (hB.mono HH.out.bsz)
    clear hB
    go_wp2_with fail
    refine (m_wrong H2.out hT).mono ?_
    rintro e w3 ⟨rfl, hf, hB⟩
    have F3 := Lib.hid hf
    have B3 := Lib.hid (B2.out.trans hB)
    clear hB hf
    go_wp2
    go_ret
    exact ⟨rfl, F3.out, B3.out⟩
/-- The next token opens one more. -/
def openN (S : PS) : Except PF PS := if S.nest = 32 then .error (122, S.pos) else .ok { S with pos := S.pos + 1, nest := S.nest + 1 }
set_option maxHeartbeats 4000000 in
set_option maxRecDepth 100000 in
theorem m_open {ts : List Tk} {B : Nat} {M : MM} {ws : List Wn} {fr : List Nat} {S : PS} {w : World} (h : MAt ts B M ws fr S w) (hT : TOK ts) (h32 : S.nest ≤ 32) (hk : (pk ts S).kind ≠ 0) :
    Calls Tryz.prog 77 #[.pointer (some ⟨M.P, 0, none⟩)] w (MStep ts B M ws fr w (openN S)) := by
  have HH := Lib.hid h
  have hl := hT.len
  have hpl := h.pos
  have hp2 := pos_next hT h.pos hk
  have c1 := h.c1
  have c6 := h.c6
  have cf := h.cf
  have hz := h.lt
  unfold openN
  clear h hk
  by_cases hn : S.nest = 32
  · have hI : (S.nest : Int) ≥ 32 := by omega
    have hI2 : (32 : Int) ≤ (S.nest : Int) := by omega
    simp only [if_pos hn, MStep]
    clear hn
    go_enter Tryz.func77, Tryz.ntmps77
    go_wp2_with fail
    refine (m_fail HH.out hT 122 (by decide)).mono ?_
    rintro e w3 ⟨rfl, hf, hB⟩
    have F3 := Lib.hid hf
    have B3 := Lib.hid hB
    clear hB hf
    go_wp2
    go_ret
    exact ⟨rfl, F3.out, B3.out⟩
  · have hI : ¬ (S.nest : Int) ≥ 32 := by omega
    have hI2 : ¬ (32 : Int) ≤ (S.nest : Int) := by omega
    have hI3 : (S.nest : Int) < 32 := by omega
    simp only [if_neg hn, MStep]
    go_enter Tryz.func77, Tryz.ntmps77
    go_wp2
    go_ret
    exact ⟨rfl, (HH.out.turnNest (S.nest + 1)).turnPos (S.pos + 1) hp2, ((Below.refl _ _).setCell (p := ⟨M.P, 6, none⟩) HH.out.PB _).setCell (p := ⟨M.P, 1, none⟩) HH.out.PB _⟩
set_option maxHeartbeats 4000000 in
set_option maxRecDepth 100000 in
theorem m_takeOpen {ts : List Tk} {B : Nat} {M : MM} {ws : List Wn} {fr : List Nat} {S : PS} {w : World} (h : MAt ts B M ws fr S w) (hT : TOK ts) (h32 : S.nest ≤ 32) :
    Calls Tryz.prog 83 #[.pointer (some ⟨M.P, 0, none⟩)] w (MStep ts B M ws fr w (openP ts [40] S)) := by
  have MC := Lib.hid (m_mark h hT ⟨#[40]⟩)
  have HH := Lib.hid h
  unfold openP
  rw [show (⟨#[40]⟩ : ByteArray).data.toList = [40] from rfl] at MC
  cases hi : isT ts S 4 [40] with
  | true =>
    rw [hi] at MC
    have HK : Hid ((pk ts S).kind ≠ 0) := Lib.hid (by rw [isT_kind hi]; decide)
    simp only [if_true]
    clear hi h
    have OC := Lib.hid (fun W (hW : MAt ts B M ws fr S W) => m_open hW hT h32 HK.out)
    unfold openN at OC
    by_cases hn : S.nest = 32
    · simp only [if_pos hn, MStep] at OC ⊢
      clear hn
      go_enter Tryz.func83, Tryz.ntmps83
      go_wp2_with fail
      refine MC.out.mono ?_
      rintro e w2 ⟨rfl, hB⟩
      have H2 := Lib.hid (HH.out.below hB)
      have B2 := Lib.hid (hB.mono HH.out.bsz)
      clear hB
      go_wp2_with fail
      refine (OC.out _ H2.out).mono ?_
      rintro e w3 ⟨rfl, hf, hB⟩
      have F3 := Lib.hid hf
      have B3 := Lib.hid (B2.out.trans hB)
      clear hB hf
      go_wp2
      go_ret
      exact ⟨rfl, F3.out, B3.out⟩
    · simp only [if_neg hn, MStep] at OC ⊢
      clear hn
      go_enter Tryz.func83, Tryz.ntmps83
      go_wp2_with fail
      refine MC.out.mono ?_
      rintro e w2 ⟨rfl, hB⟩
      have H2 := Lib.hid (HH.out.below hB)
      have B2 := Lib.hid (hB.mono HH.out.bsz)
      clear hB
      go_wp2_with fail
      refine (OC.out _ H2.out).mono ?_
      rintro e w3 ⟨rfl, hf, hB⟩
      have F3 := Lib.hid hf
      have B3 := Lib.hid (B2.out.trans hB)
      clear hB hf
      go_wp2
      go_ret
      exact ⟨rfl, F3.out, B3.out⟩
  | false =>
    rw [hi] at MC
    simp only [Bool.false_eq_true, if_false, MStep]
    clear hi h
    go_enter Tryz.func83, Tryz.ntmps83
    go_wp2_with fail
    refine MC.out.mono ?_
    rintro e w2 ⟨rfl, hB⟩
    have H2 := Lib.hid (HH.out.below hB)
    have B2 := Lib.hid (hB.mono HH.out.bsz)
    clear hB
    go_wp2_with fail
    refine (m_wrong H2.out hT).mono ?_
    rintro e w3 ⟨rfl, hf, hB⟩
    have F3 := Lib.hid hf
    have B3 := Lib.hid (B2.out.trans hB)
    clear hB hf
    go_wp2
    go_ret
    exact ⟨rfl, F3.out, B3.out⟩
/-- What text answers. -/
def MText (ts : List Tk) (B : Nat) (M : MM) (ws : List Wn) (fr : List Nat) (w : World) (r : PR Bs) (e : Ending) (w' : World) : Prop := match r with
  | .ok (s, S1) => e = .returned (.tuple #[.string ⟨s.toArray⟩, .bool true]) ∧ MAt ts B M ws fr S1 w' ∧ Below B w w'
  | .error f => e = .returned (.tuple #[.string ⟨#[]⟩, .bool false]) ∧ MFault ts M.P f w' ∧ Below B w w'
set_option maxHeartbeats 4000000 in
set_option maxRecDepth 100000 in
theorem m_text {ts : List Tk} {B : Nat} {M : MM} {ws : List Wn} {fr : List Nat} {S : PS} {w : World} (h : MAt ts B M ws fr S w) (hT : TOK ts) :
    Calls Tryz.prog 107 #[.pointer (some ⟨M.P, 0, none⟩)] w (MText ts B M ws fr w (textP ts S)) := by
  obtain ⟨g, cap, c0, c1, hg, a0, a1, a2, a3, a4⟩ := h.tok
  have HH := Lib.hid h
  have hl := hT.len
  have hp := h.pos
  have hz := h.lt
  have cf := h.cf
  have hI : (S.pos : Int) < (ts.length : Int) := by omega
  have HN := Lib.hid (pos_next hT h.pos)
  unfold textP
  clear h
  generalize pk ts S = t at *
  by_cases hk : t.kind = 1
  · have e0 : (t.kind == 1) = true := by simpa using hk
    have hp2 := HN.out (by rw [hk]; decide)
    simp only [if_pos hk, MText]
    clear hk
    go_enter Tryz.func107, Tryz.ntmps107
    go_wp2
    go_region
    all_goals go_wp2
    go_ret2
    exact ⟨rfl, (HH.out.onS hp2).below (((Below.refl _ _).alloc (Nat.le_refl _) _).drew), (((Below.refl _ _).setCell (p := ⟨M.P, 1, none⟩) HH.out.PB _).alloc (by simp; exact HH.out.bsz) _).drew⟩
  · have e0 : (t.kind == 1) = false := by simpa using hk
    simp only [if_neg hk, MText]
    clear hk
    go_enter Tryz.func107, Tryz.ntmps107
    go_wp2
    go_region
    all_goals go_wp2_with fail
    have H2 := Lib.hid (HH.out.below (w' := (w.alloc (.cells #[.int .i64 t.kind, .string ⟨t.text.toArray⟩, .int .i64 t.num, .int .i64 t.at_, .int .i64 t.end_] 73)).drew) (((Below.refl _ _).alloc (Nat.le_refl _) _).drew))
    refine (m_wrong H2.out hT).mono ?_
    rintro e w3 ⟨rfl, hf, hB⟩
    have F3 := Lib.hid hf
    have B3 := Lib.hid ((((Below.refl _ _).alloc HH.out.bsz _).drew).trans hB)
    clear hB hf
    go_wp2
    go_ret2
    exact ⟨rfl, F3.out, B3.out⟩

end Go.Proofs.YtfiljgkcipnghaaGreatDoor.X
set_option linter.unusedVariables false
set_option linter.unusedSimpArgs false
namespace Go.Proofs.YtfiljgkcipnghaaGreatDoor.X
open Go.RowKit
theorem infoWant : (Tryz.prog.info? 95).map (fun i => (i.zero, i.size, i.bytes)) = some (some (.agg #[.int .i64 0, .int .i64 0, .int .i64 0, .string ⟨#[]⟩, .int .i64 0, .int .i64 0]), 6, 56) := by kernel_rfl
theorem wCells_form (ts : List Tk) (x : Wn) : ∃ k kind at_ text num base, wCells ts x = wVal k kind at_ text num base := by
  cases x <;> exact ⟨_, _, _, _, _, _, rfl⟩
/-- append of a thing that is awaited, which stands in the last block, in a region that draws its order. -/
theorem app_want_step {ops : Array Oper} {o : Oper} {a : Act} {Q : Exit → Act → World → Prop} {K : Act → World → Prop} {W : World} (base : Nat) (hw : Region.wanted o (yielded ops a.tmps) = true) (s x : Operand)
    (ho : o.op = .call { callee := .builtin .append, args := #[s, x], argTypes := #[90, 90] })
    (v : Value) (xs news : List Value) (n : Nat) (cs : Array Value) (hcs : cs.toList = news) (hnl : news.length = 6) (h1 : ∀ u ∈ news, u.oneCell' = true) (hs : a.eval s = v) (hx : a.eval x = .slice (some ⟨W.heap.size, 0, none⟩) 1 1)
    (HO : W.ownsRow base 95 6 v n xs) (hbase : base ≤ W.heap.size) (hl : n ≤ 1000000000)
    (h : ∀ v1 w1, w1.ownsRow base 95 6 v1 (n + 1) (xs ++ news) → (W.alloc (.cells cs 95)).grownBy w1 v.ownBlock → (v1.ownBlock = v.ownBlock ∨ v1.ownBlock = some (W.alloc (.cells cs 95)).heap.size) → K (a.put o.dst v1) w1) :
    if Region.wanted o (yielded ops a.tmps) = true then Oper.wp Tryz.prog o a (W.alloc (.cells cs 95)) K Q else K (a.put o.dst undef) (W.alloc (.cells cs 95)) := by
  obtain ⟨i0, hi, hz0, hz1, hz2⟩ := info_parts infoWant
  rw [if_pos hw]
  obtain ⟨v1, w1, hr, hown, hg, _, hat⟩ := run_append_own_at (P := Tryz.prog) (W.alloc (.cells cs 95)) base 90 o.type 95 i0 _ 6 56 Tryz.underlying90 hi hz0 hz1 hz2 rfl (by omega) v n _ (HO.alloc _) ⟨W.heap.size, 0, none⟩ 1 1 news (by omega)
    (fun j u hu => World.news_of_block (cs := cs) (t := 95) (fr := (0, 0)) (heap_alloc_new W _) j u (by rw [hcs]; exact hu)) h1 (by simp only [maxLen]; omega) (by omega) (by simp; omega)
  unfold Oper.wp execOp
  simp only [ho, resolve, invoke, builtin, Sem.run_bind, Sem.run_pure, Result.andThen_ok, List.map_toArray, List.map_cons, List.map_nil, hs, hx, hr]
  exact h v1 w1 hown hg hat
theorem MAt.c2 {ts : List Tk} {B : Nat} {M : MM} {ws : List Wn} {fr : List Nat} {S : PS} {w : World} (h : MAt ts B M ws fr S w) : w.cell? ⟨M.P, 2, none⟩ = some M.vw := (Lib.cell_of_heap h.cells _).trans rfl
set_option maxHeartbeats 4000000 in
set_option maxRecDepth 100000 in
theorem m_push {ts : List Tk} {B : Nat} {M : MM} {ws : List Wn} {fr : List Nat} {S : PS} {w : World} (h : MAt ts B M ws fr S w) (x : Wn) (hw : ws.length ≤ 1000000) :
    Calls Tryz.prog 38 #[.pointer (some ⟨M.P, 0, none⟩), .agg (wCells ts x).toArray] w fun e w' => e = .returned (.tuple #[]) ∧ ∃ v1, MAt ts B { M with vw := v1 } (x :: ws) fr S w' ∧ Below B w w' := by
  have HH := Lib.hid h
  have c2 := h.c2
  have cf := h.cf
  have hz := h.lt
  have hBz := h.bsz
  obtain ⟨k, kd, at_, tx, nm, bs, e⟩ := wCells_form ts x
  have HE := Lib.hid e
  rw [e]
  have hv := own_cell h.rows.wants
  have hone := wCells_one ts x
  rw [e] at hone
  unfold wVal at hone
  unfold wVal
  clear h e
  go_enter Tryz.func38, Tryz.ntmps38
  go_wp2_with fail
  have hbW : Below w.heap.size w (((w.alloc (.cells #[.int .i64 k, .int .i64 kd, .int .i64 at_, .string ⟨tx.toArray⟩, .int .i64 nm, .int .i64 bs] 95)).drew).alloc (.cells #[.int .i64 k, .int .i64 kd, .int .i64 at_, .string ⟨tx.toArray⟩, .int .i64 nm, .int .i64 bs] 95)) := (((Below.refl _ _).alloc (Nat.le_refl _) _).drew).alloc (by simp) _
  have HW := Lib.hid hbW
  clear hbW
  go_region_law (refine app_want_step B rfl (.tmp 8) (.tmp 10) rfl _ _ (wVal k kd at_ tx nm bs) _ _ (by rfl) rfl hone (by simp [Act.eval]) (by simp [Act.eval]) ((HH.out.rows.wants.alloc _).drew) (by simp; omega) (by omega) ?_; intro v1 w1 hown hg1 hat1; have hpush := (HH.out.below HW.out).push x v1 hg1 (by rw [HE.out]; exact hown); have hgr : Below B w w1 := ((HW.out.mono HH.out.bsz).grown hg1 (by simp; omega) (fun j ej => (own_type HH.out.rows.wants ej).1)); have d2 : w1.cell? ⟨M.P, 2, none⟩ = some M.vw := (Lib.cell_of_heap hpush.1 _).trans rfl; have df : ∀ j, w1.frozen? ⟨M.P, j, none⟩ = false := (fun j => by simp [World.frozen?, hpush.1]); have hz1 : M.P < w1.heap.size := (Array.getElem?_eq_some_iff.1 hpush.1).1; obtain ⟨g1, cap1, rfl⟩ := own_some hown; have D1 := Lib.hid hpush.2; have G1 := Lib.hid hgr; clear hpush hgr hown hg1 hat1)
  all_goals
    go_wp2
    go_end0
    exact ⟨rfl, _, D1.out, G1.out.setCell (p := ⟨M.P, 2, none⟩) HH.out.PB _⟩

end Go.Proofs.YtfiljgkcipnghaaGreatDoor.X
set_option linter.unusedVariables false
set_option linter.unusedSimpArgs false
namespace Go.Proofs.YtfiljgkcipnghaaGreatDoor.X
open Go.RowKit Go.Proofs.YtfiljgkcipnghaaGreatDoorW.PrintWords
/-- append of a number that stands in the last block, in a region that draws its order. -/
theorem app_int_step {ops : Array Oper} {o : Oper} {a : Act} {Q : Exit → Act → World → Prop} {K : Act → World → Prop} {W : World} (base : Nat) (hw : Region.wanted o (yielded ops a.tmps) = true) (s x : Operand)
    (ho : o.op = .call { callee := .builtin .append, args := #[s, x], argTypes := #[26, 26] })
    (v : Value) (xs : List Value) (n : Nat) (i : Value) (h1 : i.oneCell' = true) (hs : a.eval s = v) (hx : a.eval x = .slice (some ⟨W.heap.size, 0, none⟩) 1 1)
    (HO : W.ownsRow base 3 1 v n xs) (hbase : base ≤ W.heap.size) (hl : n ≤ 1000000000)
    (h : ∀ v1 w1, w1.ownsRow base 3 1 v1 (n + 1) (xs ++ [i]) → (W.alloc (.cells #[i] 3)).grownBy w1 v.ownBlock → (v1.ownBlock = v.ownBlock ∨ v1.ownBlock = some (W.alloc (.cells #[i] 3)).heap.size) → K (a.put o.dst v1) w1) :
    if Region.wanted o (yielded ops a.tmps) = true then Oper.wp Tryz.prog o a (W.alloc (.cells #[i] 3)) K Q else K (a.put o.dst undef) (W.alloc (.cells #[i] 3)) := by
  obtain ⟨i0, hi, hz0, hz1, hz2⟩ := info_parts infoInt
  rw [if_pos hw]
  obtain ⟨v1, w1, hr, hown, hg, _, hat⟩ := run_append_own_at (P := Tryz.prog) (W.alloc (.cells #[i] 3)) base 26 o.type 3 i0 _ 1 8 Tryz.underlying26 hi hz0 hz1 hz2 rfl (by omega) v n _ (HO.alloc _) ⟨W.heap.size, 0, none⟩ 1 1 [i] (by simp)
    (fun j u hu => World.news_of_block (cs := #[i]) (t := 3) (fr := (0, 0)) (heap_alloc_new W _) j u (by simpa using hu)) (by simpa using h1) (by simp only [maxLen]; omega) (by omega) (by simp; omega)
  unfold Oper.wp execOp
  simp only [ho, resolve, invoke, builtin, Sem.run_bind, Sem.run_pure, Result.andThen_ok, List.map_toArray, List.map_cons, List.map_nil, hs, hx, hr]
  exact h v1 w1 hown hg hat
/-- append of a part that stands in a block, in a region that draws its order. -/
theorem app_part_gen {ops : Array Oper} {o : Oper} {a : Act} {Q : Exit → Act → World → Prop} {K : Act → World → Prop} {W : World} (base : Nat) (hw : Region.wanted o (yielded ops a.tmps) = true) (s x : Operand)
    (ho : o.op = .call { callee := .builtin .append, args := #[s, x], argTypes := #[23, 23] })
    (v : Value) (xs news : List Value) (n g : Nat) (cs : Array Value) (hcs : cs.toList = news) (hnl : news.length = 4) (h1 : ∀ u ∈ news, u.oneCell' = true) (hs : a.eval s = v) (hx : a.eval x = .slice (some ⟨g, 0, none⟩) 1 1)
    (hb : W.heap[g]? = some (.cells cs 49 (0, 0))) (HO : W.ownsRow base 49 4 v n xs) (hbase : base ≤ W.heap.size) (hl : n ≤ 1000000000)
    (h : ∀ v1 w1, w1.ownsRow base 49 4 v1 (n + 1) (xs ++ news) → W.grownBy w1 v.ownBlock → (v1.ownBlock = v.ownBlock ∨ v1.ownBlock = some W.heap.size) → K (a.put o.dst v1) w1) :
    if Region.wanted o (yielded ops a.tmps) = true then Oper.wp Tryz.prog o a W K Q else K (a.put o.dst undef) W := by
  obtain ⟨i0, hi, hz0, hz1, hz2⟩ := info_parts infoPart
  rw [if_pos hw]
  obtain ⟨v1, w1, hr, hown, hg, _, hat⟩ := run_append_own_at (P := Tryz.prog) W base 23 o.type 49 i0 _ 4 56 Tryz.underlying23 hi hz0 hz1 hz2 rfl (by omega) v n _ HO ⟨g, 0, none⟩ 1 1 news (by omega)
    (fun j u hu => World.news_of_block (cs := cs) (t := 49) (fr := (0, 0)) hb j u (by rw [hcs]; exact hu)) h1 (by simp only [maxLen]; omega) (by omega) hbase
  unfold Oper.wp execOp
  simp only [ho, resolve, invoke, builtin, Sem.run_bind, Sem.run_pure, Result.andThen_ok, List.map_toArray, List.map_cons, List.map_nil, hs, hx, hr]
  exact h v1 w1 hown hg hat
theorem own_shape {w : World} {base e size n : Nat} {v : Value} {xs : List Value} (h : w.ownsRow base e size v n xs) : ∃ a cap, v = .slice a n cap := by
  rcases h.2 with ⟨h1, h2⟩ | ⟨g, cap, _, h1, _⟩
  · exact ⟨none, 0, by rw [h1, h2]⟩
  · exact ⟨_, _, h1⟩
theorem own_mono {w : World} {b b' e sz n : Nat} {v : Value} {xs : List Value} (h : w.ownsRow b e sz v n xs) (hb : b' ≤ b) : w.ownsRow b' e sz v n xs := by
  refine ⟨h.1, ?_⟩
  rcases h.2 with h2 | ⟨g', cap, cur, h3, h4, h5⟩
  · exact .inl h2
  · exact .inr ⟨g', cap, cur, h3, by omega, h5⟩
theorem intRow_nums (xs : List Nat) : intRow xs = nums .i64 (xs.map fun i : Nat => (i : Int)) := by simp [intRow, nums]
/-- A row of numbers, read. -/
theorem row_reads {w : World} {B n : Nat} {v : Value} {xs : List Nat} (h : w.ownsRow B 3 1 v n (intRow xs)) : ∃ A c, v = .slice A n c ∧ n ≤ c ∧ xs.length = n ∧ (A = none → n = 0 ∧ c = 0) ∧ ∀ j (hj : j < n), ∃ g, A = some ⟨g, 0, none⟩ ∧ g < w.heap.size ∧ w.cell? ⟨g, j, none⟩ = some (.int .i64 (xs.getD j 0 : Nat)) := by
  have hl : xs.length = n := by have := h.1; simpa [intRow] using this
  rcases h.2 with ⟨h3, h4⟩ | ⟨g, cap, cur, h3, h4, h5, h6, h7, h8, h9⟩
  · exact ⟨none, 0, by rw [h3, h4], by omega, hl, (fun _ => ⟨h4, rfl⟩), (fun j hj => by omega)⟩
  · refine ⟨some ⟨g, 0, none⟩, cap, h3, h6, hl, (fun e => by cases e), fun j hj => ⟨g, rfl, (Array.getElem?_eq_some_iff.1 h5).1, ?_⟩⟩
    rw [Lib.cell_of_heap h5 j]
    have e : cur.toList[j]? = (intRow xs)[j]? := by rw [← h9, List.getElem?_take, if_pos (by omega)]
    rw [← Array.getElem?_toList, e]
    simp [intRow, List.getElem?_map, List.getD_eq_getElem?_getD, List.getElem?_eq_getElem (show j < xs.length by omega)]
theorem row_ints {w : World} {B n : Nat} {A : Option Addr} {c : Nat} {xs : List Nat} (h : w.ownsRow B 3 1 (.slice A n c) n (intRow xs)) (b : Nat) (hb : b ≤ n) (hn : n ≤ 9223372036854775807) : ReadsInt w .i64 A b ((xs.take b).map fun i : Nat => (i : Int)) := by
  obtain ⟨A', c', e, _, hl, _, hc⟩ := row_reads h
  injection e with e1 e2 e3
  subst e1
  refine ⟨by simp; omega, by omega, fun hp => ?_⟩
  obtain ⟨g, hg, _, _⟩ := hc 0 (by omega)
  refine ⟨_, hg, fun j hj => ?_⟩
  obtain ⟨g', hg', _, h2⟩ := hc j (by omega)
  rw [hg] at hg'
  injection hg' with hg'
  injection hg' with hg'
  subst hg'
  have e : (⟨g, 0, none⟩ : Addr).add j = ⟨g, j, none⟩ := by unfold Addr.add; split <;> simp_all
  rw [e, h2]
  simp [List.getD_eq_getElem?_getD, List.getElem?_take, hj, List.getElem?_eq_getElem (show j < xs.length by omega)]
theorem MAt.c5 {ts : List Tk} {B : Nat} {M : MM} {ws : List Wn} {fr : List Nat} {S : PS} {w : World} (h : MAt ts B M ws fr S w) : w.cell? ⟨M.P, 5, none⟩ = some M.vf := (Lib.cell_of_heap h.cells _).trans rfl
theorem MAt.c3 {ts : List Tk} {B : Nat} {M : MM} {ws : List Wn} {fr : List Nat} {S : PS} {w : World} (h : MAt ts B M ws fr S w) : w.cell? ⟨M.P, 3, none⟩ = some M.vp := (Lib.cell_of_heap h.cells _).trans rfl
theorem MAt.c4 {ts : List Tk} {B : Nat} {M : MM} {ws : List Wn} {fr : List Nat} {S : PS} {w : World} (h : MAt ts B M ws fr S w) : w.cell? ⟨M.P, 4, none⟩ = some M.vo := (Lib.cell_of_heap h.cells _).trans rfl
theorem take_more (fr : List Nat) (b j : Nat) (h1 : b ≤ j) (h2 : j < fr.length) : (fr.drop b).take (j + 1 - b) = (fr.drop b).take (j - b) ++ [fr.getD j 0] := by
  have e : j + 1 - b = (j - b) + 1 := by omega
  rw [e, List.take_succ_eq_append_getElem (by rw [List.length_drop]; omega)]
  congr 2
  rw [List.getElem_drop, List.getD_eq_getElem?_getD, List.getElem?_eq_getElem h2]
  simp only [Option.getD_some]
  congr 1; omega
abbrev kidsAt (w : World) (B : Nat) (v : Value) (fr : List Nat) (b j : Nat) : Prop := w.ownsRow B 3 1 v (j - b) (((fr.drop b).take (j - b)).map fun k => Value.int .i64 (k : Nat))
theorem kid_more {w : World} {B : Nat} {v : Value} {fr : List Nat} {b j x : Nat} (hj : b ≤ j) (h : w.ownsRow B 3 1 v (j - b + 1) ((((fr.drop b).take (j - b)).map fun k => Value.int .i64 (k : Nat)) ++ [Value.int .i64 (x : Nat)])) (e : (fr.drop b).take (j + 1 - b) = (fr.drop b).take (j - b) ++ [x]) : kidsAt w B v fr b (j + 1) := by
  have e2 : j + 1 - b = j - b + 1 := by omega
  unfold kidsAt
  rw [e, e2, List.map_append]
  exact h
/-- The part that is to be laid, as it stands beside the machine. -/
structure LBox (w wr : World) (p : PD) (b j : Nat) (fr : List Nat) (vk : Value) : Prop where
  bel : Below w.heap.size w wr
  box : wr.heap[w.heap.size]? = some (.cells #[.int .i64 p.kind, .string ⟨p.text.toArray⟩, .int .i64 p.num, vk] 49 (0, 0))
  kids : kidsAt wr (w.heap.size + 1) vk fr b j
set_option maxHeartbeats 8000000 in
set_option maxRecDepth 100000 in
theorem m_lay {ts : List Tk} {B : Nat} {M : MM} {ws : List Wn} {fr : List Nat} {S : PS} {w : World} (h : MAt ts B M ws fr S w) (p : PD) (hp0 : p.kids = []) (at_ b : Nat) (hb : b ≤ fr.length) (hf : fr.length ≤ 1000000) (hpl : S.parts.length ≤ 1000000) (hol : S.offs.length ≤ 1000000) :
    Calls Tryz.prog 57 #[.pointer (some ⟨M.P, 0, none⟩), .agg #[.int .i64 p.kind, .string ⟨p.text.toArray⟩, .int .i64 p.num, .slice none 0 0], .int .i64 (placeT ts at_ : Nat), .int .i64 (b : Nat)] w
      fun e w' => e = .returned (.tuple #[]) ∧ ∃ M', M'.P = M.P ∧ MAt ts B M' ws (fr.take b ++ [S.parts.length]) (putS at_ { p with kids := fr.drop b } S) w' ∧ Below B w w' := by
  have HH := Lib.hid h
  have hz := h.lt
  have hBz := h.bsz
  obtain ⟨Af, cf, hvf, hnc, hfl, hnil, hfc⟩ := row_reads h.rows.free
  have HF := Lib.hid hfc
  obtain ⟨Ap, cp, hvp⟩ := own_shape h.rows.parts
  have HVP := Lib.hid hvp
  have HVF := Lib.hid hvf
  clear h hfc
  go_enter Tryz.func57, Tryz.ntmps57
  go_wp2_with fail
  go_loopw [8] (fun v wr => ∃ (j : Nat) (vk : Value), b ≤ j ∧ j ≤ fr.length ∧ v = .int .i64 j ∧ Hid (LBox w wr p b j fr vk)) (fun v _ => fr.length - (intOf v).toNat)
  case atStart => exact ⟨b, _, Nat.le_refl _, hb, rfl, Lib.hid ⟨(Below.refl _ _).alloc (Nat.le_refl _) _, heap_alloc_new _ _, by unfold kidsAt; rw [Nat.sub_self, List.take_zero]; exact ⟨rfl, .inl ⟨rfl, rfl⟩⟩⟩⟩
  case round =>
    obtain ⟨j, vk, hbj, hjl, rfl, HB⟩ := hrel
    have HR := Lib.hid (HH.out.below HB.out.bel)
    have c5 : wr.cell? ⟨M.P, 5, none⟩ = some (.slice Af fr.length cf) := by rw [← HVF.out]; exact HR.out.c5
    have hzr := HR.out.lt
    by_cases hlt : j < fr.length
    · have hI : (j : Int) < (fr.length : Int) := by omega
      obtain ⟨gf, rfl, hgf, hcell⟩ := HF.out j hlt
      have e5 := cell_b HB.out.bel hcell
      have q3 : wr.cell? ⟨w.heap.size, 3, none⟩ = some vk := (Lib.cell_of_heap HB.out.box _).trans rfl
      have qf : ∀ i, wr.frozen? ⟨w.heap.size, i, none⟩ = false := fun i => by simp [World.frozen?, HB.out.box]
      have hzz : w.heap.size < wr.heap.size := (Array.getElem?_eq_some_iff.1 HB.out.box).1
      have hgz : gf < wr.heap.size := World.block_lt_of_cell? _ _ e5
      have hov := own_cell HB.out.kids
      have HT := Lib.hid (take_more fr b j hbj hlt)
      have hkl : j - b ≤ 1000000 := by omega
      generalize fr.getD j 0 = x at e5 HT
      clear hcell
      go_wp2_with fail
      go_region_law (refine app_int_step (w.heap.size + 1) rfl (.tmp 21) (.tmp 29) rfl vk _ _ (.int .i64 (x : Nat)) rfl (by simp [Act.eval]) (by simp [Act.eval]) HB.out.kids.drew (by simp; omega) (by omega) ?_; intro v1 w1 hown hg1 hat1; have hbx : w1.heap[w.heap.size]? = some (.cells #[.int .i64 p.kind, .string ⟨p.text.toArray⟩, .int .i64 p.num, vk] 49 (0, 0)) := (hg1.block _ (by simp; omega) (fun e => by have h2 := (own_type HB.out.kids e.symm).1; omega)).trans ((Below.heap_alloc _ _ _ (by simpa using hzz)).trans HB.out.box); have d3 : w1.cell? ⟨w.heap.size, 3, none⟩ = some vk := (Lib.cell_of_heap hbx _).trans rfl; have df : ∀ i, w1.frozen? ⟨w.heap.size, i, none⟩ = false := (fun i => by simp [World.frozen?, hbx]); have hz1 : w.heap.size < w1.heap.size := (Array.getElem?_eq_some_iff.1 hbx).1; have hgr : Below w.heap.size w w1 := (((HB.out.bel.drew).alloc (by simp; omega) _).grown hg1 (by simp; omega) (fun i ei => by have h2 := (own_type HB.out.kids ei).1; omega)); obtain ⟨g1, cap1, rfl⟩ := own_some hown; have LB := Lib.hid (⟨hgr.setCell (p := ⟨w.heap.size, 3, none⟩) (Nat.le_refl _) _, heap_setCell_same _ _ _ _ _ _ hbx, kid_more hbj (own_other' hown (set_grown w1 w.heap.size 3 _) (other_at hbx (by decide))) HT.out⟩ : LBox w (w1.setCell ⟨w.heap.size, 3, none⟩ (.slice (some ⟨g1, 0, none⟩) (j - b + 1) cap1)) p b (j + 1) fr (.slice (some ⟨g1, 0, none⟩) (j - b + 1) cap1)); clear hbx hgr hown hg1 hat1)
      all_goals
        go_wp2
        go_roundw
        case rel => exact ⟨j + 1, _, by omega, by omega, by go_num, LB⟩
        case measure => simp [intOf]; omega
    · -- EXIT
      obtain rfl : j = fr.length := by omega
      have hI : ¬ (fr.length : Int) < (fr.length : Int) := by omega
      have KD : Hid (kidRow wr (w.heap.size + 1) vk (fr.drop b)) := Lib.hid (by
        have h := HB.out.kids
        unfold kidsAt at h
        rw [List.take_of_length_le (by rw [List.length_drop]; exact Nat.le_refl _)] at h
        unfold kidRow
        rw [List.length_drop]
        exact h)
      have hov := own_cell HB.out.kids
      have hzz : w.heap.size < wr.heap.size := (Array.getElem?_eq_some_iff.1 HB.out.box).1
      have hal : Below wr.heap.size wr (wr.alloc (.cells #[] 3)) := (Below.refl _ _).alloc (Nat.le_refl _) _
      have HB5 := Lib.hid hal
      have HO5 : Hid ((wr.alloc (.cells #[] 3)).ownsRow wr.heap.size 3 1 (.slice (some ⟨wr.heap.size, 0, none⟩) 0 0) ([] : List Int).length (nums .i64 [])) := Lib.hid ⟨rfl, .inr ⟨wr.heap.size, 0, #[], rfl, Nat.le_refl _, heap_alloc_new _ _, Nat.le_refl _, by simp [maxLen], rfl, rfl⟩⟩
      have HC5 : Hid (ReadsInt (wr.alloc (.cells #[] 3)) .i64 Af b ((fr.take b).map fun i : Nat => (i : Int))) := Lib.hid ((row_ints (by have h := HR.out.rows.free; rw [HVF.out] at h; exact h) b hb (by omega)).below hal)
      have hbc : b ≤ cf := by omega
      clear hal
      go_wp2_with (first
        | (at_builtin; go_loud (have HE6 : w6.ownsRow wr.heap.size 3 1 v9 b (intRow (fr.take b)) := (by have h := O6.out; rw [intRow_nums]; simpa [Nat.min_eq_left hb] using h); refine app_int wr.heap.size rfl (.tmp 41) (.tmp 47) rfl v9 (intRow (fr.take b)) b (.int .i64 (S.parts.length : Nat)) _ rfl rfl rfl rfl HE6 (by omega) (by omega) ?_; intro v10 w7 hown hg10 hat10; have bel7 : Below wr.heap.size wr w7 := ((B6.out.alloc hzw _).grown hg10 (by simp; omega) (fun k ek => (own_type HE6 ek).1)); have B7 := Lib.hid (HB.out.bel.trans (bel7.mono (by omega))); have K7 := Lib.hid (own_mono (row_below KD.out bel7) (show B ≤ w.heap.size + 1 by omega)); have X7 := Lib.hid ((bel7.block _ hzz).trans HB.out.box); have O7 : Hid (w7.ownsRow wr.heap.size 3 1 v10 (fr.take b ++ [S.parts.length]).length (intRow (fr.take b ++ [S.parts.length]))) := Lib.hid (by rw [intRow, List.map_append, List.length_append, List.length_take, Nat.min_eq_left hb]; exact hown); have N7 := Lib.hid (fun j ej => (own_type hown (k := j) ej).1); obtain ⟨g10, cap10, rfl⟩ := own_some hown; have H7 := Lib.hid (HH.out.below B7.out); have c5 := H7.out.c5; have cfz := H7.out.cf; have hz7 := H7.out.lt; clear hown hg10 hat10 bel7 HE6))
        | (at_builtin; go_loud (refine print_append_row (w0 := wr) wr.heap.size rfl (.tmp 32) (.tmp 38) 26 3 .i64 8 rfl Tryz.underlying26 infoInt (by decide) (.slice (some ⟨wr.heap.size, 0, none⟩) 0 0) [] ((fr.take b).map fun i : Nat => (i : Int)) Af b cf rfl rfl HO5.out HC5.out HB5.out (by simp) (by simp; omega) ?_; intro v9 w6 hO hB hg hat; have O6 := Lib.hid hO; have B6 := Lib.hid hB; have hzw : wr.heap.size ≤ w6.heap.size := hB.size; have H6 := HH.out.below (HB.out.bel.trans (hB.mono (by omega))); have c36 : w6.cell? ⟨M.P, 3, none⟩ = some (.slice Ap S.parts.length cp) := (by rw [← HVP.out]; exact H6.c3); have hz6 := H6.lt; clear hO hB hg hat H6)))
      have hne10 : ∀ q ∈ iblocks M, q = none ∨ q ≠ Value.ownBlock (.slice (some ⟨g10, 0, none⟩) (b + 1) cap10) := fun q hq => by
        cases hqq : q with
        | none => exact .inl rfl
        | some k =>
          right
          intro e
          obtain ⟨_, cs, hc⟩ := HH.out.rows.ilt q hq k hqq
          have h1 := (Array.getElem?_eq_some_iff.1 hc).1
          have h2 := N7.out k e.symm
          omega
      have H8 := Lib.hid (H7.out.newFree _ (own_mono O7.out (by omega)) hne10)
      have hm8 : Other w7 3 (some M.P) := other_at H7.out.cells (by decide)
      have K8 := Lib.hid (own_other' K7.out (set_grown w7 M.P 5 (.slice (some ⟨g10, 0, none⟩) (b + 1) cap10)) hm8)
      have hzP : w.heap.size ≠ M.P := by omega
      have X8 := Lib.hid ((Below.heap_setCell w7 ⟨M.P, 5, none⟩ (.slice (some ⟨g10, 0, none⟩) (b + 1) cap10) w.heap.size hzP).trans X7.out)
      clear hm8 hne10
      have c3 : (w7.setCell ⟨M.P, 5, none⟩ (.slice (some ⟨g10, 0, none⟩) (b + 1) cap10)).cell? ⟨M.P, 3, none⟩ = some (.slice Ap S.parts.length cp) := by rw [← HVP.out]; exact H8.out.c3
      have q0 : (w7.setCell ⟨M.P, 5, none⟩ (.slice (some ⟨g10, 0, none⟩) (b + 1) cap10)).cell? ⟨w.heap.size, 0, none⟩ = some (.int .i64 p.kind) := (Lib.cell_of_heap X8.out _).trans rfl
      have q1 : (w7.setCell ⟨M.P, 5, none⟩ (.slice (some ⟨g10, 0, none⟩) (b + 1) cap10)).cell? ⟨w.heap.size, 1, none⟩ = some (.string ⟨p.text.toArray⟩) := (Lib.cell_of_heap X8.out _).trans rfl
      have q2 : (w7.setCell ⟨M.P, 5, none⟩ (.slice (some ⟨g10, 0, none⟩) (b + 1) cap10)).cell? ⟨w.heap.size, 2, none⟩ = some (.int .i64 p.num) := (Lib.cell_of_heap X8.out _).trans rfl
      have q3 : (w7.setCell ⟨M.P, 5, none⟩ (.slice (some ⟨g10, 0, none⟩) (b + 1) cap10)).cell? ⟨w.heap.size, 3, none⟩ = some vk := (Lib.cell_of_heap X8.out _).trans rfl
      have hz9 : w.heap.size < w7.heap.size := by have := (Array.getElem?_eq_some_iff.1 X7.out).1; omega
      have hone : ∀ u ∈ [Value.int .i64 p.kind, .string ⟨p.text.toArray⟩, .int .i64 p.num, vk], u.oneCell' = true := by
        intro u hu
        simp only [List.mem_cons, List.not_mem_nil, or_false] at hu
        rcases hu with rfl | rfl | rfl | rfl
        · rfl
        · rfl
        · rfl
        · exact hov
      have hneK : ∀ q ∈ iblocks { M with vf := (.slice (some ⟨g10, 0, none⟩) (b + 1) cap10) }, q = none ∨ q ≠ vk.ownBlock := fun q hq => by
        cases hkk : vk.ownBlock with
        | none => cases q with
          | none => exact .inl rfl
          | some k => exact .inr (by simp)
        | some kb =>
          right
          rintro rfl
          obtain ⟨hk1, cs1, hk2⟩ := own_type KD.out hkk
          have hk3 := (Array.getElem?_eq_some_iff.1 hk2).1
          simp only [iblocks, List.mem_cons] at hq
          rcases hq with e | e | e
          · obtain ⟨_, cs, hc⟩ := HH.out.rows.ilt (some kb) (by simp only [iblocks, List.mem_cons]; exact .inl e) kb rfl
            have := (Array.getElem?_eq_some_iff.1 hc).1; omega
          · have := N7.out kb e.symm; omega
          · obtain ⟨_, cs, hc⟩ := HH.out.rows.ilt (some kb) (by simp only [iblocks, List.mem_cons]; exact .inr (.inr e)) kb rfl
            have := (Array.getElem?_eq_some_iff.1 hc).1; omega
      have HNK := Lib.hid hneK
      have B8 : Hid (Below B w (w7.setCell ⟨M.P, 5, none⟩ (.slice (some ⟨g10, 0, none⟩) (b + 1) cap10))) := Lib.hid ((B7.out.mono hBz).setCell (p := ⟨M.P, 5, none⟩) HH.out.PB _)
      have hzB : B ≤ w7.heap.size := by omega
      clear hneK
      have hb1 : (((w7.setCell ⟨M.P, 5, none⟩ (.slice (some ⟨g10, 0, none⟩) (b + 1) cap10)).drew).alloc (.cells #[.int .i64 p.kind, .string ⟨p.text.toArray⟩, .int .i64 p.num, vk] 49)).heap[w7.heap.size]? = some (.cells #[.int .i64 p.kind, .string ⟨p.text.toArray⟩, .int .i64 p.num, vk] 49 (0, 0)) := by have h := heap_alloc_new ((w7.setCell ⟨M.P, 5, none⟩ (.slice (some ⟨g10, 0, none⟩) (b + 1) cap10)).drew) (.cells #[.int .i64 p.kind, .string ⟨p.text.toArray⟩, .int .i64 p.num, vk] 49); simpa using h
      have hb2 : (((w7.setCell ⟨M.P, 5, none⟩ (.slice (some ⟨g10, 0, none⟩) (b + 1) cap10)).alloc (.cells #[.int .i64 p.kind, .string ⟨p.text.toArray⟩, .int .i64 p.num, vk] 49)).drew).heap[w7.heap.size]? = some (.cells #[.int .i64 p.kind, .string ⟨p.text.toArray⟩, .int .i64 p.num, vk] 49 (0, 0)) := by show ((w7.setCell ⟨M.P, 5, none⟩ (.slice (some ⟨g10, 0, none⟩) (b + 1) cap10)).alloc (.cells #[.int .i64 p.kind, .string ⟨p.text.toArray⟩, .int .i64 p.num, vk] 49)).heap[w7.heap.size]? = _; have h := heap_alloc_new (w7.setCell ⟨M.P, 5, none⟩ (.slice (some ⟨g10, 0, none⟩) (b + 1) cap10)) (.cells #[.int .i64 p.kind, .string ⟨p.text.toArray⟩, .int .i64 p.num, vk] 49); simpa using h
      have hop : (w7.setCell ⟨M.P, 5, none⟩ (.slice (some ⟨g10, 0, none⟩) (b + 1) cap10)).ownsRow B 49 4 (.slice Ap S.parts.length cp) S.parts.length (partRow S.parts M.kv) := by have h := H8.out.rows.parts; rw [show ({ M with vf := (.slice (some ⟨g10, 0, none⟩) (b + 1) cap10) } : MM).vp = M.vp from rfl, HVP.out] at h; exact h
      have kb1 : Below (w7.setCell ⟨M.P, 5, none⟩ (.slice (some ⟨g10, 0, none⟩) (b + 1) cap10)).heap.size (w7.setCell ⟨M.P, 5, none⟩ (.slice (some ⟨g10, 0, none⟩) (b + 1) cap10)) ((w7.setCell ⟨M.P, 5, none⟩ (.slice (some ⟨g10, 0, none⟩) (b + 1) cap10)).drew.alloc (.cells #[.int .i64 p.kind, .string ⟨p.text.toArray⟩, .int .i64 p.num, vk] 49)) := Below.alloc (Below.drew (Below.refl (w7.setCell ⟨M.P, 5, none⟩ (.slice (some ⟨g10, 0, none⟩) (b + 1) cap10)).heap.size (w7.setCell ⟨M.P, 5, none⟩ (.slice (some ⟨g10, 0, none⟩) (b + 1) cap10)))) (show (w7.setCell ⟨M.P, 5, none⟩ (.slice (some ⟨g10, 0, none⟩) (b + 1) cap10)).heap.size ≤ (w7.setCell ⟨M.P, 5, none⟩ (.slice (some ⟨g10, 0, none⟩) (b + 1) cap10)).drew.heap.size from Nat.le_refl _) _
      have kb2 : Below (w7.setCell ⟨M.P, 5, none⟩ (.slice (some ⟨g10, 0, none⟩) (b + 1) cap10)).heap.size (w7.setCell ⟨M.P, 5, none⟩ (.slice (some ⟨g10, 0, none⟩) (b + 1) cap10)) (((w7.setCell ⟨M.P, 5, none⟩ (.slice (some ⟨g10, 0, none⟩) (b + 1) cap10)).alloc (.cells #[.int .i64 p.kind, .string ⟨p.text.toArray⟩, .int .i64 p.num, vk] 49)).drew) := ((Below.refl _ _).alloc (Nat.le_refl _) _).drew
      have ho1 := hop.drew.alloc (.cells #[.int .i64 p.kind, .string ⟨p.text.toArray⟩, .int .i64 p.num, vk] 49)
      have ho2 := (hop.alloc (.cells #[.int .i64 p.kind, .string ⟨p.text.toArray⟩, .int .i64 p.num, vk] 49)).drew
      go_region_law (go_loud ((refine app_part_gen B rfl (.tmp 55) (.tmp 57) rfl (.slice Ap S.parts.length cp) (partRow S.parts M.kv) (partCells { p with kids := fr.drop b } vk) S.parts.length w7.heap.size _ rfl rfl hone (by simp [Act.eval]) (by simp [Act.eval]) (by first | exact hb1 | exact hb2) (by first | exact ho1 | exact ho2) (by simp; omega) (by omega) ?_; intro v11 w9 hown hg11 hat11; have hadd := MAt.addPart (h := H8.out.below (by first | exact kb1 | exact kb2)) { p with kids := fr.drop b } v11 vk (row_below K8.out (by first | exact kb1 | exact kb2)) HNK.out (by rw [show ({ M with vf := (.slice (some ⟨g10, 0, none⟩) (b + 1) cap10) } : MM).vp = M.vp from rfl, HVP.out]; exact hg11) hown; have d3 : w9.cell? ⟨M.P, 3, none⟩ = some (.slice Ap S.parts.length cp) := (by rw [← HVP.out]; exact (Lib.cell_of_heap hadd.1 _).trans rfl); have df : ∀ i, w9.frozen? ⟨M.P, i, none⟩ = false := (fun i => by simp [World.frozen?, hadd.1]); have hz10 : M.P < w9.heap.size := (Array.getElem?_eq_some_iff.1 hadd.1).1; have B9 := Lib.hid (Below.grown (h := (by first | exact B8.out.trans (kb1.mono (by simpa using hzB)) | exact B8.out.trans (kb2.mono (by simpa using hzB)))) hg11 (by simp; omega) (fun k ek => by have h := H8.out.rows.parts; rw [show ({ M with vf := (.slice (some ⟨g10, 0, none⟩) (b + 1) cap10) } : MM).vp = M.vp from rfl, HVP.out] at h; exact (own_type h ek).1)); obtain ⟨g11, cap11, rfl⟩ := own_some hown; have H10 := Lib.hid hadd.2; clear hadd hown hg11 hat11)))
      all_goals
        have c4 : (w9.setCell ⟨M.P, 3, none⟩ (.slice (some ⟨g11, 0, none⟩) (S.parts.length + 1) cap11)).cell? ⟨M.P, 4, none⟩ = some M.vo := H10.out.c4
        have hov4 := own_cell HH.out.rows.ats
        have R10 := Lib.hid H10.out.rows.ats
        go_wp2_with (at_builtin; go_loud (refine app_int B rfl (.tmp 65) (.tmp 67) rfl M.vo _ _ (.int .i64 (placeT ts at_ : Nat)) _ rfl rfl rfl (by simp [Act.eval]) R10.out (by have := H10.out.bsz; omega) (by simp; omega) ?_; intro v12 w11 hown2 hg2 hat2; have hadd2 := MAt.addAt (h := H10.out.below ((Below.refl _ _).alloc (Nat.le_refl _) _)) at_ v12 hg2 hown2 hat2; have e4 : w11.cell? ⟨M.P, 4, none⟩ = some M.vo := (Lib.cell_of_heap hadd2.1 _).trans rfl; have ef : ∀ i, w11.frozen? ⟨M.P, i, none⟩ = false := (fun i => by simp [World.frozen?, hadd2.1]); have hz11 : M.P < w11.heap.size := (Array.getElem?_eq_some_iff.1 hadd2.1).1; have B11 := Lib.hid (Below.grown (((B9.out.setCell (p := ⟨M.P, 3, none⟩) HH.out.PB _).alloc (by have := H10.out.bsz; omega) _)) hg2 (by have := H10.out.bsz; simp at this ⊢; omega) (fun k ek => (own_type HH.out.rows.ats ek).1)); obtain ⟨g12, cap12, rfl⟩ := own_some hown2; have H12 := Lib.hid hadd2.2; clear hadd2 hown2 hg2 hat2))
        go_end0
        exact ⟨rfl, _, (by exact rfl), H12.out, B11.out.setCell (p := ⟨M.P, 4, none⟩) HH.out.PB _⟩

end Go.Proofs.YtfiljgkcipnghaaGreatDoor.X
set_option linter.unusedVariables false
set_option linter.unusedSimpArgs false
namespace Go.Proofs.YtfiljgkcipnghaaGreatDoor.X
open Go.RowKit
/-- The machine is not too large. -/
structure MBd (ws : List Wn) (fr : List Nat) (S : PS) : Prop where
  fr : fr.length ≤ 5000
  parts : S.parts.length ≤ 5000
  offs : S.offs.length ≤ 5000
  wsl : ws.length ≤ 100000
  nest : S.nest ≤ 32
theorem MBd.on {ws : List Wn} {fr : List Nat} {S : PS} (h : MBd ws fr S) : MBd ws fr (on S) := ⟨h.fr, h.parts, h.offs, h.wsl, h.nest⟩
/-- What a step of the machine answers. -/
def MVoid (ts : List Tk) (B : Nat) (M : MM) (ws : List Wn) (w : World) (r : MR) (e : Ending) (w' : World) : Prop := match r with
  | .ok ((ws', fr'), S') => e = .returned (.tuple #[]) ∧ ∃ M', M'.P = M.P ∧ MAt ts B M' (ws' ++ ws) fr' S' w' ∧ Below B w w'
  | .error f => e = .returned (.tuple #[]) ∧ MFault ts M.P f w' ∧ Below B w w'
theorem void_err {ts : List Tk} {B : Nat} {M : MM} {ws : List Wn} {w w' : World} {r : MR} {f : PF} (e : r = .error f) (hf : MFault ts M.P f w') (hb : Below B w w') : MVoid ts B M ws w r (.returned (.tuple #[])) w' := by
  rw [e]; exact ⟨rfl, hf, hb⟩
theorem void_ok {ts : List Tk} {B : Nat} {M : MM} {ws : List Wn} {w w' : World} {r : MR} {ws' : List Wn} {fr' : List Nat} {S' : PS} (e : r = .ok ((ws', fr'), S')) (M' : MM) (hP : M'.P = M.P) (h : MAt ts B M' (ws' ++ ws) fr' S' w') (hb : Below B w w') : MVoid ts B M ws w r (.returned (.tuple #[])) w' := by
  rw [e]; exact ⟨rfl, M', hP, h, hb⟩
/-- A last call that answers for all. -/
theorem void_last {ts : List Tk} {B : Nat} {M M2 : MM} {ws : List Wn} {w w2 w' : World} {r r2 : MR} {e : Ending} (h : MVoid ts B M2 ws w2 r2 e w') (hr : r = r2) (hP : M2.P = M.P) (hb : Below B w w2) : MVoid ts B M ws w r e w' := by
  subst hr
  unfold MVoid at h ⊢
  cases r with
  | error f => exact ⟨h.1, by rw [← hP]; exact h.2.1, hb.trans h.2.2⟩
  | ok q =>
    obtain ⟨h1, M', h2, h3, h4⟩ := h
    exact ⟨h1, M', h2.trans hP, h3, hb.trans h4⟩
theorem void_ret {ts : List Tk} {B : Nat} {M : MM} {ws : List Wn} {w w' : World} {r : MR} {e : Ending} (h : MVoid ts B M ws w r e w') : e = .returned (.tuple #[]) := by
  unfold MVoid at h
  cases r with
  | error f => exact h.1
  | ok q => exact h.1
theorem m_lay' {ts : List Tk} {B : Nat} {M : MM} {ws : List Wn} {fr : List Nat} {S : PS} {w : World} (h : MAt ts B M ws fr S w) (bd : MBd ws fr S) (k : Int) (s : Bs) (n : Int) (at_ b : Nat) (hb : b ≤ fr.length) :
    Calls Tryz.prog 57 #[.pointer (some ⟨M.P, 0, none⟩), .agg #[.int .i64 k, .string ⟨s.toArray⟩, .int .i64 n, .slice none 0 0], .int .i64 (placeT ts at_ : Nat), .int .i64 (b : Nat)] w (MVoid ts B M ws w (layR at_ ⟨k, s, n, []⟩ b fr S)) := by
  refine (m_lay h ⟨k, s, n, []⟩ rfl at_ b hb (by have := bd.fr; omega) (by have := bd.parts; omega) (by have := bd.offs; omega)).mono ?_
  rintro e w' ⟨rfl, M', hP, hM, hB⟩
  exact ⟨rfl, M', hP, hM, hB⟩
theorem layR_leaf (at_ : Nat) (k : Int) (s : Bs) (n : Int) (fr : List Nat) (S : PS) : layR at_ ⟨k, s, n, []⟩ fr.length fr S = leafR at_ ⟨k, s, n, []⟩ fr S := by
  unfold layR leafR
  rw [List.take_length, List.drop_length]
set_option maxHeartbeats 4000000 in
set_option maxRecDepth 100000 in
theorem m_leaf {ts : List Tk} {B : Nat} {M : MM} {ws : List Wn} {fr : List Nat} {S : PS} {w : World} (h : MAt ts B M ws fr S w) (bd : MBd ws fr S) (k : Int) (s : Bs) (n : Int) (at_ : Nat) :
    Calls Tryz.prog 78 #[.pointer (some ⟨M.P, 0, none⟩), .agg #[.int .i64 k, .string ⟨s.toArray⟩, .int .i64 n, .slice none 0 0], .int .i64 (placeT ts at_ : Nat)] w (MVoid ts B M ws w (leafR at_ ⟨k, s, n, []⟩ fr S)) := by
  rw [← layR_leaf]
  have HH := Lib.hid h
  have hz := h.lt
  obtain ⟨Af, cf, hvf⟩ := own_shape h.rows.free
  have c5 : w.cell? ⟨M.P, 5, none⟩ = some (.slice Af fr.length cf) := by rw [← hvf]; exact h.c5
  have LC := Lib.hid (fun W (hW : MAt ts B M ws fr S W) => m_lay' hW bd k s n at_ fr.length (Nat.le_refl _))
  clear h hvf
  go_enter Tryz.func78, Tryz.ntmps78
  go_wp2_with fail
  have hb1 : Below w.heap.size w (w.alloc (.cells #[.int .i64 k, .string ⟨s.toArray⟩, .int .i64 n, .slice none 0 0] 49)) := (Below.refl _ _).alloc (Nat.le_refl _) _
  have BB := Lib.hid hb1
  have H1 := Lib.hid (HH.out.below (hb1.drew))
  clear hb1
  go_region_with (go_at_call 57; refine (LC.out _ H1.out).mono ?_; intro e w2 hV; obtain rfl := void_ret hV; have V2 := Lib.hid hV; clear hV)
  all_goals
    go_wp2
    go_end0
    exact void_last V2.out rfl rfl (BB.out.drew.mono HH.out.bsz)

end Go.Proofs.YtfiljgkcipnghaaGreatDoor.X
