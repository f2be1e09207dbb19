/-
  The parser in memory; the walks of peek, is, wrong.
  The walks of mark, open, shut, text, side.
  A part laid: what the parser's memory is behind it. No walk.
  The walk of put.
-/
import Derived.Test.YtfiljgkcipnghaaGreatDoorSame
import Derived.Test.YtfiljgkcipnghaaGreatDoorParM
import Derived.RegionTactic
import Derived.ChangeAlike
import Derived.Test.YtfiljgkcipnghaaGreatDoorParT
import Derived.Test.YtfiljgkcipnghaaGreatDoorLexT
import Derived.Deep.RegionLaw
import Derived.Laws.BitsLemmas
set_option linter.unusedVariables false
set_option linter.unusedSimpArgs false
namespace Go.Proofs.YtfiljgkcipnghaaGreatDoor.X
open Go.RowKit
/-- Where the parser lies, and what its fields hold; the parts' kids. -/
structure PM where
  P : Nat
  vt : Value
  vp : Value
  vo : Value
  kv : List Value
def partCells (p : PD) (v : Value) : List Value := [.int .i64 p.kind, .string ⟨p.text.toArray⟩, .int .i64 p.num, v]
def partRow : List PD → List Value → List Value
  | p :: ps, v :: vs => partCells p v ++ partRow ps vs
  | _, _ => []
/-- The blocks of the parser, of its rows, of the kids' rows. -/
def blocksOf (M : PM) : List (Option Nat) := some M.P :: M.vp.ownBlock :: M.vo.ownBlock :: M.kv.map Value.ownBlock
abbrev kidRow (w : World) (B : Nat) (v : Value) (kids : List Nat) : Prop := w.ownsRow B 3 1 v kids.length (kids.map fun k => Value.int .i64 (k : Nat))
/-- The parser lies there and stands so. -/
structure PAt (ts : List Tk) (B : Nat) (M : PM) (S : PS) (w : World) : Prop where
  cells : w.heap[M.P]? = some (.cells #[M.vt, .int .i64 S.pos, .int .i64 S.nest, M.vp, M.vo] 69 (0, 0))
  toks : TokAt w M.vt ts
  tokB : ∀ k, M.vt.ownBlock = some k → k < B
  PB : B ≤ M.P
  parts : w.ownsRow B 49 4 M.vp S.parts.length (partRow S.parts M.kv)
  offs : w.ownsRow B 3 1 M.vo S.offs.length (S.offs.map fun i => Value.int .i64 (placeT ts i : Nat))
  klen : M.kv.length = S.parts.length
  kids : ∀ i (h : i < S.parts.length), kidRow w B (M.kv.getD i undef) S.parts[i].kids
  apart : (blocksOf M).Pairwise fun a b => a = none ∨ a ≠ b
  pos : S.pos < ts.length
  small : S.parts.length ≤ S.pos
  osmall : S.offs.length ≤ S.pos
/-- What a step of the parser leaves as it was. -/
structure PCore (B : Nat) (M : PM) (w w' : World) (M' : PM) : Prop where
  below : Below B w w'
  keeps : ∀ b, b < w.heap.size → b ≠ M.P → some b ≠ M.vp.ownBlock → some b ≠ M.vo.ownBlock → w'.heap[b]? = w.heap[b]?
  P : M'.P = M.P
  vt : M'.vt = M.vt
  vp : M'.vp.ownBlock = M.vp.ownBlock ∨ ∃ g, M'.vp.ownBlock = some g ∧ w.heap.size ≤ g
  vo : M'.vo.ownBlock = M.vo.ownBlock ∨ ∃ g, M'.vo.ownBlock = some g ∧ w.heap.size ≤ g
/-- The same, and the kids' rows that have come are new. -/
structure PKept (B : Nat) (M : PM) (w w' : World) (M' : PM) : Prop extends PCore B M w w' M' where
  kv : ∀ v ∈ M'.kv, v ∈ M.kv ∨ ∀ g, v.ownBlock = some g → w.heap.size ≤ g
theorem PCore.size {B : Nat} {M M' : PM} {w w' : World} (h : PCore B M w w' M') : w.heap.size ≤ w'.heap.size := h.below.size
theorem PKept.size {B : Nat} {M M' : PM} {w w' : World} (h : PKept B M w w' M') : w.heap.size ≤ w'.heap.size := h.below.size
theorem PCore.trans {B : Nat} {M M' M'' : PM} {w w' w'' : World} (h : PCore B M w w' M') (k : PCore B M' w' w'' M'') : PCore B M w w'' M'' where
  below := h.below.trans k.below
  keeps := fun b hb h1 h2 h3 => by
    refine (k.keeps b (Nat.lt_of_lt_of_le hb h.size) (by rw [h.P]; exact h1) ?_ ?_).trans (h.keeps b hb h1 h2 h3)
    · rcases h.vp with e | ⟨g, e, hg⟩
      · rw [e]; exact h2
      · rw [e]; intro e2; injection e2 with e2; omega
    · rcases h.vo with e | ⟨g, e, hg⟩
      · rw [e]; exact h3
      · rw [e]; intro e2; injection e2 with e2; omega
  P := k.P.trans h.P
  vt := k.vt.trans h.vt
  vp := by
    rcases k.vp with e | ⟨g, e, hg⟩
    · rcases h.vp with e2 | ⟨g, e2, hg⟩
      · exact .inl (e.trans e2)
      · exact .inr ⟨g, e.trans e2, hg⟩
    · exact .inr ⟨g, e, Nat.le_trans h.size hg⟩
  vo := by
    rcases k.vo with e | ⟨g, e, hg⟩
    · rcases h.vo with e2 | ⟨g, e2, hg⟩
      · exact .inl (e.trans e2)
      · exact .inr ⟨g, e.trans e2, hg⟩
    · exact .inr ⟨g, e, Nat.le_trans h.size hg⟩
theorem PKept.trans {B : Nat} {M M' M'' : PM} {w w' w'' : World} (h : PKept B M w w' M') (k : PKept B M' w' w'' M'') : PKept B M w w'' M'' :=
  ⟨h.toPCore.trans k.toPCore, fun v hv => by
    rcases k.kv v hv with h1 | h1
    · exact h.kv v h1
    · exact .inr fun g hg => Nat.le_trans h.size (h1 g hg)⟩
theorem PKept.of_below {B : Nat} {M : PM} {w w' : World} (h : Below w.heap.size w w') (hB : B ≤ w.heap.size) : PKept B M w w' M :=
  ⟨⟨h.mono hB, fun b hb _ _ _ => h.block b hb, rfl, rfl, .inl rfl, .inl rfl⟩, fun v hv => .inl hv⟩
theorem row_below {w w' : World} {base e size n : Nat} {v : Value} {xs : List Value} (h : w.ownsRow base e size v n xs) (hb : Below w.heap.size w w') : w'.ownsRow base e size v n xs :=
  h.kept (row := none) ⟨hb.os, hb.tape, hb.output, hb.size, fun i hi _ => hb.block i hi⟩ (by cases Value.ownBlock _ <;> simp)
theorem PAt.lt {ts : List Tk} {B : Nat} {M : PM} {S : PS} {w : World} (h : PAt ts B M S w) : M.P < w.heap.size := (Array.getElem?_eq_some_iff.1 h.cells).1
theorem PAt.bsize {ts : List Tk} {B : Nat} {M : PM} {S : PS} {w : World} (h : PAt ts B M S w) : B ≤ w.heap.size := by have := h.lt; have := h.PB; omega
theorem PAt.below {ts : List Tk} {B : Nat} {M : PM} {S : PS} {w w' : World} (h : PAt ts B M S w) (hb : Below w.heap.size w w') : PAt ts B M S w' where
  cells := (hb.block M.P h.lt).trans h.cells
  toks := h.toks.kept hb
  tokB := h.tokB
  PB := h.PB
  parts := row_below h.parts hb
  offs := row_below h.offs hb
  klen := h.klen
  kids := fun i hi => row_below (h.kids i hi) hb
  apart := h.apart
  pos := h.pos
  small := h.small
  osmall := h.osmall
/-- The tokens of a source: the end is the last one. -/
structure TOK (ts : List Tk) : Prop where
  len : ts.length ≤ 4097
  ends : ∀ i, i < ts.length → ((ts.getD i endT).kind = 0 ↔ i + 1 = ts.length)
theorem pk_eq {ts : List Tk} {S : PS} (h : S.pos < ts.length) : pk ts S = ts[S.pos] := by unfold pk; rw [List.getD_eq_getElem?_getD, List.getElem?_eq_getElem h]; rfl

set_option maxHeartbeats 4000000 in
set_option maxRecDepth 100000 in
theorem peek_any {ts : List Tk} {B : Nat} {M : PM} {S : PS} {w : World} (h : PAt ts B M S w) (hT : TOK ts) :
    Calls Tryz.prog 29 #[.pointer (some ⟨M.P, 0, none⟩)] w fun e w' => e = .returned (.agg (tokCells (pk ts S))) ∧ Below w.heap.size w w' := by
  have hp := h.pos
  have hl := hT.len
  rcases h.toks with ⟨_, he⟩ | ⟨g, cap, hv, hg, hc⟩
  · rw [he] at hp; simp at hp
  have hcs := h.cells
  rw [hv] at hcs
  have c0 : w.cell? ⟨M.P, 0, none⟩ = some (.slice (some ⟨g, 0, none⟩) ts.length cap) := (Lib.cell_of_heap hcs _).trans rfl
  have c1 : w.cell? ⟨M.P, 1, none⟩ = some (.int .i64 S.pos) := (Lib.cell_of_heap hcs _).trans rfl
  rw [pk_eq hp]
  have hcc := hc S.pos hp
  generalize ts[S.pos] = t at hcc
  have a0 : w.cell? ⟨g, S.pos * 5, none⟩ = some (.int .i64 t.kind) := hcc 0 _ rfl
  have a1 : w.cell? ⟨g, S.pos * 5 + 1, none⟩ = some (.string ⟨t.text.toArray⟩) := hcc 1 _ rfl
  have a2 : w.cell? ⟨g, S.pos * 5 + 2, none⟩ = some (.int .i64 t.num) := hcc 2 _ rfl
  have a3 : w.cell? ⟨g, S.pos * 5 + 3, none⟩ = some (.int .i64 t.at_) := hcc 3 _ rfl
  have a4 : w.cell? ⟨g, S.pos * 5 + 4, none⟩ = some (.int .i64 t.end_) := hcc 4 _ rfl
  have hgp : g < w.heap.size := hg
  have hpp := h.lt
  have hI : (S.pos : Int) < (ts.length : Int) := by omega
  generalize M.P = P at c0 c1 hpp
  generalize S.pos = p at c1 a0 a1 a2 a3 a4 hI hp
  clear hv hcs hcc hc h
  go_enter Tryz.func29, Tryz.ntmps29
  go_wp2
  go_region
  all_goals go_wp2
  refine bodyPost_ret (results_cell_row rfl _ _ w.heap.size 73 #[.int .i64 t.kind, .string ⟨t.text.toArray⟩, .int .i64 t.num, .int .i64 t.at_, .int .i64 t.end_] (0, 0) _ rfl (Go.heap_alloc_new w _) Tryz.underlying73 rfl (by rw [tokSize]; rfl)) rfl ⟨rfl, ?_⟩
  exact ((Below.refl _ _).alloc (Nat.le_refl _) _).drew

set_option maxHeartbeats 4000000 in
set_option maxRecDepth 100000 in
theorem is_any {ts : List Tk} {B : Nat} {M : PM} {S : PS} {w : World} (h : PAt ts B M S w) (hT : TOK ts) (kind : Int) (text : ByteArray) :
    Calls Tryz.prog 67 #[.pointer (some ⟨M.P, 0, none⟩), .int .i64 kind, .string text] w fun e w' => e = .returned (.bool (isT ts S kind text.data.toList)) ∧ Below w.heap.size w w' := by
  have PC := Lib.hid (peek_any h hT)
  unfold isT
  generalize pk ts S = t at PC ⊢
  generalize M.P = P at PC ⊢
  clear h
  by_cases hk : t.kind = kind
  · have e0 : (t.kind == kind) = true := by simpa using hk
    have HE : Hid ((t.kind == kind) = true) := Lib.hid e0
    go_enter Tryz.func67, Tryz.ntmps67
    go_wp2_with (go_at_call 29; refine PC.out.mono ?_; rintro e w2 ⟨he, hB2⟩; simp only [tokCells] at he; subst he; have HB2 := Lib.hid hB2; clear hB2)
    go_ret
    exact ⟨by simp [ByteArray.toList_eq, HE.out], HB2.out.alloc (by have := HB2.out.size; omega) _⟩
  · have e0 : (t.kind == kind) = false := by simpa using hk
    go_enter Tryz.func67, Tryz.ntmps67
    go_wp2_with (go_at_call 29; refine PC.out.mono ?_; rintro e w2 ⟨he, hB2⟩; simp only [tokCells] at he; subst he; have HB2 := Lib.hid hB2; clear hB2)
    go_ret
    exact ⟨by simp [hk], HB2.out.alloc (by have := HB2.out.size; omega) _⟩
/-- What the parser gives up with. -/
def failV (ts : List Tk) (f : PF) : PanicEntry := { v := .iface 62 (.agg #[.int .i64 f.1, .int .i64 (placeT ts f.2 : Nat)]), recovered := false }
set_option maxHeartbeats 4000000 in
set_option maxRecDepth 100000 in
theorem wrong_any {ts : List Tk} {B : Nat} {M : PM} {S : PS} {w : World} (h : PAt ts B M S w) (hT : TOK ts) :
    Calls Tryz.prog 30 #[.pointer (some ⟨M.P, 0, none⟩)] w fun e w' => e = .panicked [failV ts (wrongP ts S)] ∧ Below w.heap.size w w' := by
  have PC := Lib.hid (peek_any h hT)
  have hpl : placeT ts (wrongP ts S).2 = (pk ts S).at_ := by unfold wrongP; split <;> rfl
  unfold failV
  rw [hpl]
  unfold wrongP
  generalize pk ts S = t at PC ⊢
  generalize M.P = P at PC ⊢
  clear h hpl
  by_cases hk : t.kind = 0
  · have e0 : (t.kind == 0) = true := by simpa using hk
    simp only [if_pos hk]
    clear hk
    go_enter Tryz.func30, Tryz.ntmps30
    go_wp2_with (go_at_call 29; refine PC.out.mono ?_; rintro e w2 ⟨he, hB2⟩; simp only [tokCells] at he; subst he; have HB2 := Lib.hid hB2; clear hB2)
    exact ⟨rfl, rfl, HB2.out.alloc (by have := HB2.out.size; omega) _⟩
  · have e0 : (t.kind == 0) = false := by simpa using hk
    simp only [if_neg hk]
    clear hk
    go_enter Tryz.func30, Tryz.ntmps30
    go_wp2_with (go_at_call 29; refine PC.out.mono ?_; rintro e w2 ⟨he, hB2⟩; simp only [tokCells] at he; subst he; have HB2 := Lib.hid hB2; clear hB2)
    exact ⟨rfl, rfl, HB2.out.alloc (by have := HB2.out.size; omega) _⟩

end Go.Proofs.YtfiljgkcipnghaaGreatDoor.X
set_option linter.unusedVariables false
set_option linter.unusedSimpArgs false
namespace Go.Proofs.YtfiljgkcipnghaaGreatDoor.X
open Go.RowKit
/-- What a step of the parser answers. -/
def PAns {α : Type} (ts : List Tk) (B : Nat) (M : PM) (w : World) (val : α → Value) (r : PR α) (e : Ending) (w' : World) : Prop := match r with
  | .ok (a, S') => ∃ M', e = .returned (val a) ∧ PAt ts B M' S' w' ∧ PKept B M w w' M'
  | .error f => e = .panicked [failV ts f] ∧ Below B w w'
theorem TokAt.stays {w w' : World} {v : Value} {ts : List Tk} (h : TokAt w v ts) (hk : ∀ g, v.ownBlock = some g → w'.heap[g]? = w.heap[g]?) (hs : w.heap.size ≤ w'.heap.size) : TokAt w' v ts := by
  rcases h with h | ⟨g, cap, h1, h2, h3⟩
  · exact .inl h
  · exact .inr ⟨g, cap, h1, Nat.lt_of_lt_of_le h2 hs, fun k hk2 j u hu => (World.cell?_of_block (a := ⟨g, k * 5 + j, none⟩) (hk g (by rw [h1]; rfl))).trans (h3 k hk2 j u hu)⟩
theorem apart_P {M : PM} (h : (blocksOf M).Pairwise fun a b => a = none ∨ a ≠ b) : some M.P ≠ M.vp.ownBlock ∧ some M.P ≠ M.vo.ownBlock ∧ ∀ v ∈ M.kv, some M.P ≠ v.ownBlock := by
  have h1 := (List.pairwise_cons.1 h).1
  refine ⟨?_, ?_, fun v hv => ?_⟩
  · rcases h1 M.vp.ownBlock (by simp) with e | e
    · cases e
    · exact e
  · rcases h1 M.vo.ownBlock (by simp) with e | e
    · cases e
    · exact e
  · rcases h1 v.ownBlock (by simp; exact .inr (.inr ⟨v, hv, rfl⟩)) with e | e
    · cases e
    · exact e
theorem kv_mem {M : PM} {i : Nat} (h : i < M.kv.length) : M.kv.getD i undef ∈ M.kv := by
  rw [List.getD_eq_getElem?_getD, List.getElem?_eq_getElem h]; exact List.getElem_mem h
/-- The parser's numbers turned. -/
theorem PAt.turn {ts : List Tk} {B : Nat} {M : PM} {S : PS} {w w' : World} (h : PAt ts B M S w) (p' n' : Nat) (hP : w'.heap[M.P]? = some (.cells #[M.vt, .int .i64 p', .int .i64 n', M.vp, M.vo] 69 (0, 0))) (hg : w.grownBy w' (some M.P))
    (hp : p' < ts.length) (hs : S.pos ≤ p') : PAt ts B M { S with pos := p', nest := n' } w' ∧ PKept B M w w' M := by
  obtain ⟨a1, a2, a3⟩ := apart_P h.apart
  have hB := h.PB
  have hz := h.lt
  refine ⟨⟨hP, h.toks.stays (fun g e => hg.block g ?_ (fun e2 => ?_)) hg.size, h.tokB, h.PB, h.parts.kept hg (.inr (fun e => a1 e.symm)), h.offs.kept hg (.inr (fun e => a2 e.symm)), h.klen, fun i hi => (h.kids i hi).kept hg (.inr (fun e => a3 _ (kv_mem (by rw [h.klen]; exact hi)) e.symm)), h.apart, hp, Nat.le_trans h.small hs, Nat.le_trans h.osmall hs⟩,
    ⟨⟨(Below.refl B w).grown hg (by omega) (fun k e => by cases e; exact hB), fun b hb h1 _ _ => hg.block b hb (fun e => h1 (by injection e)), rfl, rfl, .inl rfl, .inl rfl⟩, fun v hv => .inl hv⟩⟩
  · have := h.tokB g e; omega
  · have := h.tokB g e; injection e2 with e2; omega
theorem set_pos {W : World} {g : Nat} {T : TypeId} {a0 a1 a2 a3 a4 : Value} (h : W.heap[g]? = some (.cells #[a0, a1, a2, a3, a4] T (0, 0))) (v : Value) : (W.setCell ⟨g, 1, none⟩ v).heap[g]? = some (.cells #[a0, v, a2, a3, a4] T (0, 0)) := heap_setCell_same _ _ _ _ _ _ h
theorem set_nest {W : World} {g : Nat} {T : TypeId} {a0 a1 a2 a3 a4 : Value} (h : W.heap[g]? = some (.cells #[a0, a1, a2, a3, a4] T (0, 0))) (v : Value) : (W.setCell ⟨g, 2, none⟩ v).heap[g]? = some (.cells #[a0, a1, v, a3, a4] T (0, 0)) := heap_setCell_same _ _ _ _ _ _ h
theorem set_grown (W : World) (g j : Nat) (v : Value) : W.grownBy (W.setCell ⟨g, j, none⟩ v) (some g) :=
  ⟨rfl, rfl, rfl, (KeepsWalks.setCell W _ v).size, fun k _ hk => Below.heap_setCell _ _ _ k (fun e => hk (by rw [e]))⟩
theorem PKept.after {B : Nat} {M M' : PM} {w w2 w' : World} (h : Below w.heap.size w w2) (hB : B ≤ w.heap.size) (k : PKept B M w2 w' M') : PKept B M w w' M' := (PKept.of_below h hB).trans k
/-- A mark, a word, a text, a number is not the end. -/
theorem pos_next {ts : List Tk} {S : PS} (hT : TOK ts) (hp : S.pos < ts.length) (h : (pk ts S).kind ≠ 0) : S.pos + 1 < ts.length := by
  rcases Nat.lt_or_ge (S.pos + 1) ts.length with h1 | h1
  · exact h1
  · exact absurd ((hT.ends S.pos hp).2 (by omega)) h
theorem isT_kind {ts : List Tk} {S : PS} {k : Int} {m : Bs} (h : isT ts S k m = true) : (pk ts S).kind = k := by
  unfold isT at h; rw [Bool.and_eq_true] at h; exact eq_of_beq h.1

theorem tokField (a b c d e : Value) (W : World) : (Instr.field 73 (.agg #[a, b, c, d, e]) 3).run Tryz.prog W = .ok d W := by kernel_rfl
set_option maxHeartbeats 4000000 in
set_option maxRecDepth 100000 in
theorem mark_any {ts : List Tk} {B : Nat} {M : PM} {S : PS} {w : World} (h : PAt ts B M S w) (hT : TOK ts) (text : ByteArray) :
    Calls Tryz.prog 113 #[.pointer (some ⟨M.P, 0, none⟩), .string text] w (PAns ts B M w (fun _ : Unit => .tuple #[]) (un (markP ts text.data.toList S))) := by
  have IC := Lib.hid (is_any h hT 4 text)
  have H := Lib.hid h
  have hBs := h.bsize
  unfold markP
  cases hi : isT ts S 4 text.data.toList with
  | true =>
    rw [hi] at IC
    have hp2 := pos_next hT h.pos (by rw [isT_kind hi]; decide)
    have hsm := h.small
    have hl := hT.len
    simp only [if_true]
    clear hi h
    go_enter Tryz.func113, Tryz.ntmps113
    go_wp2_with (go_at_call 67; refine IC.out.mono ?_; rintro e w2 ⟨rfl, hB2⟩; have H2 := Lib.hid (H.out.below hB2); have HB2 := Lib.hid hB2; have c1 : w2.cell? ⟨M.P, 1, none⟩ = some (.int .i64 S.pos) := (Lib.cell_of_heap H2.out.cells _).trans rfl; have cf : ∀ j, w2.frozen? ⟨M.P, j, none⟩ = false := (fun j => by simp [World.frozen?, H2.out.cells]); clear hB2)
    go_end0
    obtain ⟨k1, k2⟩ := H2.out.turn (S.pos + 1) S.nest (set_pos H2.out.cells _) (set_grown _ _ _ _) hp2 (by omega)
    exact ⟨M, rfl, k1, PKept.after HB2.out hBs k2⟩
  | false =>
    rw [hi] at IC
    simp only [Bool.false_eq_true, if_false]
    clear hi h
    go_enter Tryz.func113, Tryz.ntmps113
    go_wp2_with (first | (go_at_call 67; refine IC.out.mono ?_; rintro e w2 ⟨rfl, hB2⟩; have WC := Lib.hid (wrong_any (H.out.below hB2) hT); have HB2 := Lib.hid hB2; clear hB2) | (go_at_call 30; refine WC.out.mono ?_; rintro e w3 ⟨rfl, hB3⟩))
    exact ⟨rfl, rfl, (HB2.out.mono hBs).trans (hB3.mono (Nat.le_trans hBs HB2.out.size))⟩
set_option maxHeartbeats 4000000 in
set_option maxRecDepth 100000 in
theorem open_any {ts : List Tk} {B : Nat} {M : PM} {S : PS} {w : World} (h : PAt ts B M S w) (hT : TOK ts) (text : ByteArray) (hn : S.nest ≤ 32) :
    Calls Tryz.prog 96 #[.pointer (some ⟨M.P, 0, none⟩), .string text] w (PAns ts B M w (fun _ : Unit => .tuple #[]) (un (openP ts text.data.toList S))) := by
  have IC := Lib.hid (is_any h hT 4 text)
  have H := Lib.hid h
  have hBs := h.bsize
  unfold openP
  cases hi : isT ts S 4 text.data.toList with
  | true =>
    rw [hi] at IC
    have hp2 := pos_next hT h.pos (by rw [isT_kind hi]; decide)
    have hsm := h.small
    have hl := hT.len
    simp only [if_true]
    clear hi h
    by_cases h32 : S.nest = 32
    · have e32 : ((S.nest : Int) == 32) = true := by rw [beq_iff_eq]; omega
      have tf := tokField
      simp only [if_pos h32]
      clear h32
      go_enter Tryz.func96, Tryz.ntmps96
      go_wp2_with (first | (go_at_call 67; refine IC.out.mono ?_; rintro e w2 ⟨rfl, hB2⟩; have H2 := Lib.hid (H.out.below hB2); have PC := Lib.hid (peek_any H2.out hT); have HB2 := Lib.hid hB2; have c2 : w2.cell? ⟨M.P, 2, none⟩ = some (.int .i64 S.nest) := (Lib.cell_of_heap H2.out.cells _).trans rfl; clear hB2) | (go_at_call 29; refine PC.out.mono ?_; rintro e w3 ⟨he, hB3⟩; simp only [tokCells] at he; subst he))
      exact ⟨rfl, rfl, (HB2.out.mono hBs).trans (hB3.mono (Nat.le_trans hBs HB2.out.size))⟩
    · have e32 : ((S.nest : Int) == 32) = false := by rw [beq_eq_false_iff_ne]; omega
      simp only [if_neg h32]
      clear h32
      go_enter Tryz.func96, Tryz.ntmps96
      go_wp2_with (go_at_call 67; refine IC.out.mono ?_; rintro e w2 ⟨rfl, hB2⟩; have H2 := Lib.hid (H.out.below hB2); have HB2 := Lib.hid hB2; have c1 : w2.cell? ⟨M.P, 1, none⟩ = some (.int .i64 S.pos) := (Lib.cell_of_heap H2.out.cells _).trans rfl; have c2 : w2.cell? ⟨M.P, 2, none⟩ = some (.int .i64 S.nest) := (Lib.cell_of_heap H2.out.cells _).trans rfl; have cf : ∀ j, w2.frozen? ⟨M.P, j, none⟩ = false := (fun j => by simp [World.frozen?, H2.out.cells]); clear hB2)
      go_end0
      obtain ⟨k1, k2⟩ := H2.out.turn S.pos (S.nest + 1) (set_nest H2.out.cells _) (set_grown _ _ _ _) (by omega) (by omega)
      obtain ⟨l1, l2⟩ := k1.turn (S.pos + 1) (S.nest + 1) (set_pos k1.cells _) (set_grown _ _ _ _) hp2 (by simp only; omega)
      exact ⟨M, rfl, l1, PKept.after HB2.out hBs (k2.trans l2)⟩
  | false =>
    rw [hi] at IC
    simp only [Bool.false_eq_true, if_false]
    clear hi h
    go_enter Tryz.func96, Tryz.ntmps96
    go_wp2_with (first | (go_at_call 67; refine IC.out.mono ?_; rintro e w2 ⟨rfl, hB2⟩; have WC := Lib.hid (wrong_any (H.out.below hB2) hT); have HB2 := Lib.hid hB2; clear hB2) | (go_at_call 30; refine WC.out.mono ?_; rintro e w3 ⟨rfl, hB3⟩))
    exact ⟨rfl, rfl, (HB2.out.mono hBs).trans (hB3.mono (Nat.le_trans hBs HB2.out.size))⟩
set_option maxHeartbeats 4000000 in
set_option maxRecDepth 100000 in
theorem shut_any {ts : List Tk} {B : Nat} {M : PM} {S : PS} {w : World} (h : PAt ts B M S w) (hT : TOK ts) (hn : S.nest ≤ 32) (hn1 : 1 ≤ S.nest) :
    Calls Tryz.prog 97 #[.pointer (some ⟨M.P, 0, none⟩)] w (PAns ts B M w (fun _ : Unit => .tuple #[]) (un (shutP ts S))) := by
  have MC := Lib.hid (mark_any h hT ⟨#[41]⟩)
  have H := Lib.hid h
  unfold shutP
  cases hm : markP ts [41] S with
  | error f =>
    rw [show (⟨#[41]⟩ : ByteArray).data.toList = [41] from rfl, hm] at MC
    clear h hm
    go_enter Tryz.func97, Tryz.ntmps97
    go_wp2_with (go_at_call 113; refine MC.out.mono ?_; rintro e w2 ⟨rfl, hB2⟩)
    exact ⟨rfl, rfl, hB2⟩
  | ok S1 =>
    rw [show (⟨#[41]⟩ : ByteArray).data.toList = [41] from rfl, hm] at MC
    have hS1 : S1.nest = S.nest := by rw [mark_fair hm]; rfl
    clear h hm
    go_enter Tryz.func97, Tryz.ntmps97
    go_wp2_with (go_at_call 113; refine MC.out.mono ?_; rintro e w2 ⟨M2, rfl, h2, k2⟩; have H2 := Lib.hid h2; have K2 := Lib.hid k2; have hP := k2.P; have c2 : w2.cell? ⟨M.P, 2, none⟩ = some (.int .i64 S1.nest) := (by rw [← hP]; exact (Lib.cell_of_heap h2.cells _).trans rfl); have cf : ∀ j, w2.frozen? ⟨M.P, j, none⟩ = false := (fun j => by rw [← hP]; simp [World.frozen?, h2.cells]); have HP := Lib.hid hP; clear h2 k2 hP)
    go_end0
    have hc : ((S.nest : Int) - 1) = ((S1.nest - 1 : Nat) : Int) := by omega
    rw [hc, ← HP.out]
    obtain ⟨l1, l2⟩ := H2.out.turn S1.pos (S1.nest - 1) (set_nest H2.out.cells _) (set_grown _ _ _ _) H2.out.pos (Nat.le_refl _)
    exact ⟨M2, rfl, l1, K2.out.trans l2⟩
set_option maxHeartbeats 4000000 in
set_option maxRecDepth 100000 in
theorem text_any' {ts : List Tk} {B : Nat} {M : PM} {S : PS} {w : World} (h : PAt ts B M S w) (hT : TOK ts) :
    Calls Tryz.prog 115 #[.pointer (some ⟨M.P, 0, none⟩)] w (PAns ts B M w (fun s : Bs => .string ⟨s.toArray⟩) (textP ts S)) := by
  have PC := Lib.hid (peek_any h hT)
  have H := Lib.hid h
  have hBs := h.bsize
  unfold textP
  by_cases hk : (pk ts S).kind = 1
  · have hp2 := pos_next hT h.pos (by rw [hk]; decide)
    have hsm := h.small
    have hl := hT.len
    have e1 : ((pk ts S).kind != 1) = false := by rw [hk]; rfl
    simp only [if_pos hk]
    clear hk h
    generalize hpt : pk ts S = t at PC e1 ⊢
    clear hpt
    go_enter Tryz.func115, Tryz.ntmps115
    go_wp2_with (go_at_call 29; refine PC.out.mono ?_; rintro e w2 ⟨he, hB2⟩; simp only [tokCells] at he; subst he; have hB3 := hB2.alloc hB2.size (.cells (tokCells t) 73); have H2 := Lib.hid (H.out.below hB2); have HB2 := Lib.hid hB2; have hPz := (H.out.below hB2).lt; have c1 : w2.cell? ⟨M.P, 1, none⟩ = some (.int .i64 S.pos) := (Lib.cell_of_heap (H.out.below hB2).cells _).trans rfl; have cf : ∀ j, w2.frozen? ⟨M.P, j, none⟩ = false := (fun j => by simp [World.frozen?, (H.out.below hB2).cells]); have hne : ¬ M.P = w2.heap.size := (by omega); have hne2 : ¬ w2.heap.size = M.P := (by omega); clear hB2 hB3)
    go_ret
    obtain ⟨k1, k2⟩ := H2.out.turn (S.pos + 1) S.nest (set_pos H2.out.cells _) (set_grown _ _ _ _) hp2 (by omega)
    have hb3 := (Below.refl _ (w2.setCell ⟨M.P, 1, none⟩ (.int .i64 ((S.pos + 1 : Nat) : Int)))).alloc (Nat.le_refl _) (.cells (tokCells t) 73)
    exact ⟨M, rfl, k1.below hb3, (PKept.after HB2.out hBs k2).trans (PKept.of_below hb3 k1.bsize)⟩
  · have e1 : ((pk ts S).kind != 1) = true := by rw [bne_iff_ne]; exact hk
    simp only [if_neg hk]
    clear hk h
    go_enter Tryz.func115, Tryz.ntmps115
    go_wp2_with (first | (go_at_call 29; refine PC.out.mono ?_; rintro e w2 ⟨he, hB2⟩; simp only [tokCells] at he; subst he; have hB3 := hB2.alloc hB2.size (.cells (tokCells (pk ts S)) 73); have WC := Lib.hid (wrong_any (H.out.below hB3) hT); have HB3 := Lib.hid hB3; clear hB2 hB3) | (go_at_call 30; refine WC.out.mono ?_; rintro e w3 ⟨rfl, hB4⟩))
    exact ⟨rfl, rfl, (HB3.out.mono hBs).trans (hB4.mono (Nat.le_trans hBs HB3.out.size))⟩

end Go.Proofs.YtfiljgkcipnghaaGreatDoor.X
set_option linter.unusedVariables false
set_option linter.unusedSimpArgs false
namespace Go.Proofs.YtfiljgkcipnghaaGreatDoor.X
open Go.RowKit
/-- A block that the parser does not hold has grown. -/
theorem PAt.grown {ts : List Tk} {B : Nat} {M : PM} {S : PS} {w w' : World} (h : PAt ts B M S w) {row : Option Nat} (hg : w.grownBy w' row) (hr : ∀ k, row = some k → B ≤ k ∧ ∀ b ∈ blocksOf M, b ≠ some k) : PAt ts B M S w' := by
  have hz := h.lt
  have ne : ∀ b ∈ blocksOf M, row = none ∨ b ≠ row := fun b hb => by
    cases row with
    | none => exact .inl rfl
    | some k => exact .inr ((hr k rfl).2 b hb)
  have nv : ∀ v : Value, v.ownBlock ∈ blocksOf M → v.ownBlock = none ∨ v.ownBlock ≠ row := fun v hv => by
    rcases ne _ hv with e | e
    · subst e; cases v.ownBlock with
      | none => exact .inl rfl
      | some k => exact .inr (by simp)
    · exact .inr e
  refine ⟨(hg.block M.P hz (fun e => ?_)).trans h.cells, h.toks.stays (fun g e => hg.block g ?_ (fun e2 => ?_)) hg.size, h.tokB, h.PB, h.parts.kept hg (nv _ (by simp [blocksOf])), h.offs.kept hg (nv _ (by simp [blocksOf])), h.klen, fun i hi => (h.kids i hi).kept hg (nv _ ?_), h.apart, h.pos, h.small, h.osmall⟩
  · exact (hr _ e.symm).2 (some M.P) (by simp [blocksOf]) rfl
  · have := h.tokB g e; have := h.PB; omega
  · have := h.tokB g e; have := (hr _ e2.symm).1; omega
  · have := kv_mem (M := M) (i := i) (by rw [h.klen]; exact hi)
    simp only [blocksOf, List.mem_cons, List.mem_map]
    exact .inr (.inr (.inr ⟨_, this, rfl⟩))
/-- Every block of the parser lies. -/
theorem PAt.blocks_lt {ts : List Tk} {B : Nat} {M : PM} {S : PS} {w : World} (h : PAt ts B M S w) : ∀ b ∈ blocksOf M, ∀ k, b = some k → B ≤ k ∧ k < w.heap.size := by
  intro b hb k hk
  subst hk
  simp only [blocksOf, List.mem_cons, List.mem_map] at hb
  rcases hb with e | e | e | ⟨v, hv, e⟩
  · injection e with e; subst e; exact ⟨h.PB, h.lt⟩
  · exact h.parts.lt k e.symm
  · exact h.offs.lt k e.symm
  · obtain ⟨i, hi, rfl⟩ := List.getElem_of_mem hv
    have := h.kids i (by rw [← h.klen]; exact hi)
    rw [List.getD_eq_getElem?_getD, List.getElem?_eq_getElem hi] at this
    exact this.lt k e
theorem PAt.fresh {ts : List Tk} {B : Nat} {M : PM} {S : PS} {w : World} (h : PAt ts B M S w) {r : Nat} (hr : w.heap.size ≤ r) : ∀ b ∈ blocksOf M, b ≠ some r := by
  intro b hb e
  have := h.blocks_lt b hb r e
  omega
/-- What lay apart from the parser's blocks lies so on. -/
theorem PKept.apart {B : Nat} {M M' : PM} {w w' : World} (k : PKept B M w w' M') {r : Nat} (hr : r < w.heap.size) (h : ∀ b ∈ blocksOf M, b ≠ some r) : ∀ b ∈ blocksOf M', b ≠ some r := by
  intro b hb
  simp only [blocksOf, List.mem_cons, List.mem_map] at hb
  rcases hb with e | e | e | ⟨v, hv, e⟩
  · rw [e, k.P]; exact h _ (by simp [blocksOf])
  · rw [e]
    rcases k.vp with e2 | ⟨g, e2, hg⟩
    · rw [e2]; exact h _ (by simp [blocksOf])
    · rw [e2]; intro e3; injection e3 with e3; omega
  · rw [e]
    rcases k.vo with e2 | ⟨g, e2, hg⟩
    · rw [e2]; exact h _ (by simp [blocksOf])
    · rw [e2]; intro e3; injection e3 with e3; omega
  · rw [← e]
    rcases k.kv v hv with e2 | e2
    · exact h _ (by simp only [blocksOf, List.mem_cons, List.mem_map]; exact .inr (.inr (.inr ⟨v, e2, rfl⟩)))
    · intro e3; have := e2 r e3; omega
theorem PKept.grown {B : Nat} {M M' : PM} {w w' w'' : World} (k : PKept B M w w' M') {row : Option Nat} (hg : w'.grownBy w'' row) (hB : B ≤ w.heap.size) (hr : ∀ j, row = some j → w.heap.size ≤ j) : PKept B M w w'' M' :=
  ⟨⟨k.below.grown hg (Nat.le_trans hB k.size) (fun j e => Nat.le_trans hB (hr j e)),
    fun b hb h1 h2 h3 => (hg.block b (Nat.lt_of_lt_of_le hb k.size) (fun e => by have := hr b e.symm; omega)).trans (k.keeps b hb h1 h2 h3), k.P, k.vt, k.vp, k.vo⟩, k.kv⟩
theorem partRow_snoc : ∀ (ps : List PD) (vs : List Value) (p : PD) (v : Value), vs.length = ps.length → partRow (ps ++ [p]) (vs ++ [v]) = partRow ps vs ++ partCells p v
  | [], [], p, v, _ => by simp [partRow]
  | [], _ :: _, p, v, h => by simp at h
  | _ :: _, [], p, v, h => by simp at h
  | q :: ps, u :: vs, p, v, h => by
    simp only [List.cons_append, partRow, List.append_assoc]
    rw [partRow_snoc ps vs p v (by simpa using h)]
theorem set_parts {W : World} {g : Nat} {T : TypeId} {a0 a1 a2 a3 a4 : Value} (h : W.heap[g]? = some (.cells #[a0, a1, a2, a3, a4] T (0, 0))) (v : Value) : (W.setCell ⟨g, 3, none⟩ v).heap[g]? = some (.cells #[a0, a1, a2, v, a4] T (0, 0)) := heap_setCell_same _ _ _ _ _ _ h
theorem set_offs {W : World} {g : Nat} {T : TypeId} {a0 a1 a2 a3 a4 : Value} (h : W.heap[g]? = some (.cells #[a0, a1, a2, a3, a4] T (0, 0))) (v : Value) : (W.setCell ⟨g, 4, none⟩ v).heap[g]? = some (.cells #[a0, a1, a2, a3, v] T (0, 0)) := heap_setCell_same _ _ _ _ _ _ h
theorem own_kept {w w' : World} {base e size n : Nat} {v : Value} {xs : List Value} (h : w.ownsRow base e size v n xs) {row : Option Nat} (hg : w.grownBy w' row) (hr : ∀ k, row = some k → v.ownBlock ≠ some k) : w'.ownsRow base e size v n xs := by
  refine h.kept hg ?_
  cases row with
  | none => cases v.ownBlock with
    | none => exact .inl rfl
    | some k => exact .inr (by simp)
  | some k => exact .inr (hr k rfl)
/-- The row of the parts has grown by a part and stands in its cell. -/
theorem PAt.grow1 {ts : List Tk} {B : Nat} {M : PM} {S : PS} {w w1 : World} (h : PAt ts B M S w) (p : PD) (v v1 : Value) (hk : kidRow w B v p.kids) (hd : ∀ b ∈ blocksOf M, b = none ∨ b ≠ v.ownBlock)
    (hg : w.grownBy w1 M.vp.ownBlock) (ho : w1.ownsRow B 49 4 v1 (S.parts.length + 1) (partRow S.parts M.kv ++ partCells p v)) (hat : v1.ownBlock = M.vp.ownBlock ∨ v1.ownBlock = some w.heap.size) (hs : S.parts.length + 1 ≤ S.pos) :
    PAt ts B { M with vp := v1, kv := M.kv ++ [v] } { S with parts := S.parts ++ [p] } (w1.setCell ⟨M.P, 3, none⟩ v1) ∧ PCore B M w (w1.setCell ⟨M.P, 3, none⟩ v1) { M with vp := v1, kv := M.kv ++ [v] } := by
  have hz := h.lt
  have hB := h.PB
  have hbl := h.blocks_lt
  have hvlt := hk.lt
  have hplt := h.parts.lt
  have hap := h.apart
  simp only [blocksOf, List.pairwise_cons] at hap
  obtain ⟨a1, a2, a3, a4⟩ := hap
  have hPp : some M.P ≠ M.vp.ownBlock := (apart_P h.apart).1
  have hg2 := set_grown w1 M.P 3 v1
  have hP1 : w1.heap[M.P]? = _ := (hg.block M.P hz hPp).trans h.cells
  have hnv : ∀ b ∈ blocksOf M, b = none ∨ b ≠ M.vp.ownBlock ∨ b = M.vp.ownBlock := fun b _ => by by_cases e : b = M.vp.ownBlock <;> simp [e]
  have hv1P : v1.ownBlock ≠ some M.P := by
    rcases hat with e | e
    · rw [e]; exact hPp.symm
    · rw [e]; intro e2; injection e2 with e2; omega
  have hvP : v.ownBlock ≠ some M.P := by
    rcases hd (some M.P) (by simp [blocksOf]) with e | e
    · cases e
    · exact e.symm
  have hvvp : ∀ k, M.vp.ownBlock = some k → v.ownBlock ≠ some k := fun k e => by
    rcases hd M.vp.ownBlock (by simp [blocksOf]) with e2 | e2
    · rw [e] at e2; cases e2
    · rw [← e]; exact e2.symm
  have hvovp : ∀ k, M.vp.ownBlock = some k → M.vo.ownBlock ≠ some k := fun k e => by
    rcases a2 M.vo.ownBlock (by simp) with e2 | e2
    · rw [e] at e2; cases e2
    · rw [← e]; exact e2.symm
  have hkvvp : ∀ u ∈ M.kv, ∀ k, M.vp.ownBlock = some k → u.ownBlock ≠ some k := fun u hu k e => by
    rcases a2 u.ownBlock (by simp; exact .inr ⟨u, hu, rfl⟩) with e2 | e2
    · rw [e] at e2; cases e2
    · rw [← e]; exact e2.symm
  have hvoP : M.vo.ownBlock ≠ some M.P := (apart_P h.apart).2.1.symm
  have sP : ∀ (b : Option Nat), b ≠ some M.P → ∀ k, some M.P = some k → b ≠ some k := fun b hb k e => by rw [← e]; exact hb
  -- another block, ahead of the new one, is not the new row's
  have nv1 : ∀ b ∈ blocksOf M, b ≠ M.vp.ownBlock → b = none ∨ v1.ownBlock = none ∨ b ≠ v1.ownBlock := fun b hb hne => by
    rcases hat with e | e
    · rw [e]; exact .inr (.inr hne)
    · rw [e]; cases b with
      | none => exact .inl rfl
      | some k => exact .inr (.inr (fun e2 => by injection e2 with e2; have := hbl _ hb k rfl; omega))
  have dv1 : ∀ b ∈ M.vo.ownBlock :: M.kv.map Value.ownBlock, v1.ownBlock = none ∨ v1.ownBlock ≠ b := fun b hb => by
    rcases hat with e | e
    · rw [e]; exact a2 b hb
    · rw [e]; refine .inr (fun e2 => ?_)
      have := hbl b (by simp only [blocksOf]; exact List.mem_cons_of_mem _ (List.mem_cons_of_mem _ hb)) _ e2.symm
      omega
  have dv1v : v1.ownBlock = none ∨ v1.ownBlock ≠ v.ownBlock := by
    rcases hat with e | e
    · rw [e]; exact hd _ (by simp [blocksOf])
    · rw [e]; refine .inr (fun e2 => ?_)
      have := hvlt _ e2.symm
      omega
  refine ⟨⟨set_parts hP1 v1, ?_, h.tokB, h.PB, ?_, ?_, ?_, ?_, ?_, h.pos, ?_, h.osmall⟩, ⟨?_, ?_, rfl, rfl, ?_, .inl rfl⟩⟩
  · refine h.toks.stays (fun g e => ?_) (Nat.le_trans hg.size hg2.size)
    have hgB := h.tokB g e
    refine (hg2.block g (Nat.lt_of_lt_of_le (by omega) hg.size) (fun e2 => by injection e2 with e2; omega)).trans (hg.block g (by omega) (fun e2 => ?_))
    have := hplt g e2.symm
    omega
  · rw [List.length_append, partRow_snoc _ _ _ _ h.klen]
    exact own_kept ho hg2 (sP _ hv1P)
  · exact own_kept (own_kept h.offs hg hvovp) hg2 (sP _ hvoP)
  · simp [h.klen]
  · intro i hi
    simp only [List.length_append, List.length_cons, List.length_nil] at hi
    by_cases hlt : i < S.parts.length
    · have hk2 := h.kids i hlt
      have e1 : (M.kv ++ [v]).getD i undef = M.kv.getD i undef := by
        rw [List.getD_eq_getElem?_getD, List.getD_eq_getElem?_getD, List.getElem?_append_left (by rw [h.klen]; exact hlt)]
      have e2 : (S.parts ++ [p])[i] = S.parts[i] := List.getElem_append_left hlt
      show kidRow _ B ((M.kv ++ [v]).getD i undef) (S.parts ++ [p])[i].kids
      rw [e1, e2]
      have hm := kv_mem (M := M) (i := i) (by rw [h.klen]; exact hlt)
      exact own_kept (own_kept hk2 hg (hkvvp _ hm)) hg2 (sP _ ((apart_P h.apart).2.2 _ hm).symm)
    · have ei : i = S.parts.length := by omega
      subst ei
      have e1 : (M.kv ++ [v]).getD S.parts.length undef = v := by
        rw [List.getD_eq_getElem?_getD, List.getElem?_append_right (by rw [h.klen]; exact Nat.le_refl _), h.klen]; simp
      have e2 : (S.parts ++ [p])[S.parts.length]'(by simp) = p := by simp
      show kidRow _ B ((M.kv ++ [v]).getD S.parts.length undef) ((S.parts ++ [p])[S.parts.length]'(by simp)).kids
      rw [e1, e2]
      exact own_kept (own_kept hk hg hvvp) hg2 (sP _ hvP)
  · simp only [blocksOf, List.map_append, List.map_cons, List.map_nil, List.pairwise_cons, List.pairwise_append, List.mem_cons, List.mem_append, List.not_mem_nil, or_false]
    refine ⟨?_, ?_, ?_, a4, ⟨fun _ h => absurd h (by simp), List.Pairwise.nil⟩, ?_⟩
    · intro b hb
      rcases hb with rfl | rfl | hb | rfl
      · exact .inr (fun e => hv1P e.symm)
      · exact a1 _ (by simp)
      · exact a1 _ (List.mem_cons_of_mem _ (List.mem_cons_of_mem _ hb))
      · exact .inr (fun e => hvP e.symm)
    · intro b hb
      rcases hb with rfl | hb | rfl
      · exact dv1 _ (by simp)
      · exact dv1 _ (List.mem_cons_of_mem _ hb)
      · exact dv1v
    · intro b hb
      rcases hb with hb | rfl
      · exact a3 _ hb
      · exact hd _ (by simp [blocksOf])
    · rintro b hb c rfl
      exact hd b (by simp only [blocksOf]; exact List.mem_cons_of_mem _ (List.mem_cons_of_mem _ (List.mem_cons_of_mem _ hb)))
  · simp; exact hs
  · exact ((Below.refl B w).grown hg (by omega) (fun k e => (hplt k e).1)).grown hg2 (by have := hg.size; omega) (fun k e => by injection e with e; omega)
  · intro b hb h1 h2 h3
    exact (hg2.block b (Nat.lt_of_lt_of_le hb hg.size) (fun e => h1 (by injection e))).trans (hg.block b hb h2)
  · rcases hat with e | e
    · exact .inl e
    · exact .inr ⟨_, e, Nat.le_refl _⟩
/-- The row of the places has grown by one and stands in its cell. -/
theorem PAt.grow2 {ts : List Tk} {B : Nat} {M : PM} {S : PS} {w w1 : World} (h : PAt ts B M S w) (at_ : Nat) (v1 : Value)
    (hg : w.grownBy w1 M.vo.ownBlock) (ho : w1.ownsRow B 3 1 v1 (S.offs.length + 1) ((S.offs.map fun i => Value.int .i64 (placeT ts i : Nat)) ++ [Value.int .i64 (placeT ts at_ : Nat)])) (hat : v1.ownBlock = M.vo.ownBlock ∨ v1.ownBlock = some w.heap.size) (hs : S.offs.length + 1 ≤ S.pos) :
    PAt ts B { M with vo := v1 } { S with offs := S.offs ++ [at_] } (w1.setCell ⟨M.P, 4, none⟩ v1) ∧ PCore B M w (w1.setCell ⟨M.P, 4, none⟩ v1) { M with vo := v1 } := by
  have hz := h.lt
  have hB := h.PB
  have hbl := h.blocks_lt
  have holt := h.offs.lt
  have hap := h.apart
  simp only [blocksOf, List.pairwise_cons] at hap
  obtain ⟨a1, a2, a3, a4⟩ := hap
  have hPo : some M.P ≠ M.vo.ownBlock := (apart_P h.apart).2.1
  have hg2 := set_grown w1 M.P 4 v1
  have hP1 : w1.heap[M.P]? = _ := (hg.block M.P hz hPo).trans h.cells
  have hv1P : v1.ownBlock ≠ some M.P := by
    rcases hat with e | e
    · rw [e]; exact hPo.symm
    · rw [e]; intro e2; injection e2 with e2; omega
  have hvpo : ∀ k, M.vo.ownBlock = some k → M.vp.ownBlock ≠ some k := fun k e => by
    rcases a2 M.vo.ownBlock (by simp) with e2 | e2
    · rw [e2]; simp
    · rw [← e]; exact e2
  have hkvo : ∀ u ∈ M.kv, ∀ k, M.vo.ownBlock = some k → u.ownBlock ≠ some k := fun u hu k e => by
    rcases a3 u.ownBlock (by simp; exact ⟨u, hu, rfl⟩) with e2 | e2
    · rw [e] at e2; cases e2
    · rw [← e]; exact e2.symm
  have hvpP : M.vp.ownBlock ≠ some M.P := (apart_P h.apart).1.symm
  have sP : ∀ (b : Option Nat), b ≠ some M.P → ∀ k, some M.P = some k → b ≠ some k := fun b hb k e => by rw [← e]; exact hb
  have dv1 : ∀ b ∈ M.kv.map Value.ownBlock, v1.ownBlock = none ∨ v1.ownBlock ≠ b := fun b hb => by
    rcases hat with e | e
    · rw [e]; exact a3 b hb
    · rw [e]; refine .inr (fun e2 => ?_)
      have := hbl b (by simp only [blocksOf]; exact List.mem_cons_of_mem _ (List.mem_cons_of_mem _ (List.mem_cons_of_mem _ hb))) _ e2.symm
      omega
  have dpv1 : M.vp.ownBlock = none ∨ M.vp.ownBlock ≠ v1.ownBlock := by
    rcases hat with e | e
    · rw [e]; exact a2 _ (by simp)
    · rw [e]; refine .inr (fun e2 => ?_)
      have := hbl _ (by simp [blocksOf]) _ e2
      omega
  refine ⟨⟨set_offs hP1 v1, ?_, h.tokB, h.PB, ?_, ?_, h.klen, ?_, ?_, h.pos, h.small, by simpa using hs⟩, ⟨?_, ?_, rfl, rfl, .inl rfl, ?_⟩⟩
  · refine h.toks.stays (fun g e => ?_) (Nat.le_trans hg.size hg2.size)
    have hgB := h.tokB g e
    refine (hg2.block g (Nat.lt_of_lt_of_le (by omega) hg.size) (fun e2 => by injection e2 with e2; omega)).trans (hg.block g (by omega) (fun e2 => ?_))
    have := holt g e2.symm
    omega
  · exact own_kept (own_kept h.parts hg hvpo) hg2 (sP _ hvpP)
  · simp only [List.length_append, List.length_cons, List.length_nil, List.map_append, List.map_cons, List.map_nil]
    exact own_kept ho hg2 (sP _ hv1P)
  · intro i hi
    have hm := kv_mem (M := M) (i := i) (by rw [h.klen]; exact hi)
    exact own_kept (own_kept (h.kids i hi) hg (hkvo _ hm)) hg2 (sP _ ((apart_P h.apart).2.2 _ hm).symm)
  · simp only [blocksOf, List.pairwise_cons, List.mem_cons]
    refine ⟨?_, ?_, dv1, a4⟩
    · intro b hb
      rcases hb with rfl | rfl | hb
      · exact a1 _ (by simp)
      · exact .inr (fun e => hv1P e.symm)
      · exact a1 _ (List.mem_cons_of_mem _ (List.mem_cons_of_mem _ hb))
    · intro b hb
      rcases hb with rfl | hb
      · exact dpv1
      · exact a2 _ (List.mem_cons_of_mem _ hb)
  · exact ((Below.refl B w).grown hg (by omega) (fun k e => (holt k e).1)).grown hg2 (by have := hg.size; omega) (fun k e => by injection e with e; omega)
  · intro b hb h1 h2 h3
    exact (hg2.block b (Nat.lt_of_lt_of_le hb hg.size) (fun e => h1 (by injection e))).trans (hg.block b hb h3)
  · rcases hat with e | e
    · exact .inl e
    · exact .inr ⟨_, e, Nat.le_refl _⟩
theorem PCore.of_below {B : Nat} {M : PM} {w w' : World} (h : Below w.heap.size w w') (hB : B ≤ w.heap.size) : PCore B M w w' M := (PKept.of_below h hB).toPCore

end Go.Proofs.YtfiljgkcipnghaaGreatDoor.X
set_option linter.unusedVariables false
set_option linter.unusedSimpArgs false
namespace Go.Proofs.YtfiljgkcipnghaaGreatDoor.X
open Go.RowKit
theorem infoPart : (Tryz.prog.info? 49).map (fun i => (i.zero, i.size, i.bytes)) = some (some (.agg #[.int .i64 0, .string ⟨#[]⟩, .int .i64 0, .slice none 0 0]), 4, 56) := by kernel_rfl
theorem infoInt : (Tryz.prog.info? 3).map (fun i => (i.zero, i.size, i.bytes)) = some (some (.int .i64 0), 1, 8) := by kernel_rfl
/-- append of a part that stands in the last block, in a region that draws its order. -/
theorem app_part_step {ops : Array Oper} {o : Oper} {a : Act} {Q : Exit → Act → World → Prop} {K : Act → World → Prop} {W : World} (base : Nat) (hw : Region.wanted o (yielded ops a.tmps) = true) (s x : Operand)
    (ho : o.op = .call { callee := .builtin .append, args := #[s, x], argTypes := #[23, 23] })
    (v : Value) (xs news : List Value) (n : Nat) (cs : Array Value) (hcs : cs.toList = news) (hnl : news.length = 4) (h1 : ∀ u ∈ news, u.oneCell' = true) (hs : a.eval s = v) (hx : a.eval x = .slice (some ⟨W.heap.size, 0, none⟩) 1 1)
    (HO : W.ownsRow base 49 4 v n xs) (hbase : base ≤ W.heap.size) (hl : n ≤ 1000000000)
    (h : ∀ v1 w1, w1.ownsRow base 49 4 v1 (n + 1) (xs ++ news) → (W.alloc (.cells cs 49)).grownBy w1 v.ownBlock → (v1.ownBlock = v.ownBlock ∨ v1.ownBlock = some (W.alloc (.cells cs 49)).heap.size) → K (a.put o.dst v1) w1) :
    if Region.wanted o (yielded ops a.tmps) = true then Oper.wp Tryz.prog o a (W.alloc (.cells cs 49)) K Q else K (a.put o.dst undef) (W.alloc (.cells cs 49)) := by
  obtain ⟨i0, hi, hz0, hz1, hz2⟩ := info_parts infoPart
  rw [if_pos hw]
  obtain ⟨v1, w1, hr, hown, hg, _, hat⟩ := run_append_own_at (P := Tryz.prog) (W.alloc (.cells cs 49)) base 23 o.type 49 i0 _ 4 56 Tryz.underlying23 hi hz0 hz1 hz2 rfl (by omega) v n _ (HO.alloc _) ⟨W.heap.size, 0, none⟩ 1 1 news (by omega)
    (fun j u hu => World.news_of_block (cs := cs) (t := 49) (fr := (0, 0)) (heap_alloc_new W _) j u (by rw [hcs]; exact hu)) h1 (by simp only [maxLen]; omega) (by omega) (by simp; omega)
  unfold Oper.wp execOp
  simp only [ho, resolve, invoke, builtin, Sem.run_bind, Sem.run_pure, Result.andThen_ok, List.map_toArray, List.map_cons, List.map_nil, hs, hx, hr]
  exact h v1 w1 hown hg hat
/-- append of a number that stands in the last block. -/
theorem app_int {ops : Array Oper} {rest : List Oper} {o : Oper} {a : Act} {Q : Exit → Act → World → Prop} {W : World} (base : Nat) (hgd : o.guard = none) (s x : Operand)
    (ho : o.op = .call { callee := .builtin .append, args := #[s, x], argTypes := #[26, 26] })
    (v : Value) (xs : List Value) (n : Nat) (i : Value) (cs : Array Value) (hcs : cs.toList = [i]) (h1 : i.oneCell' = true) (hs : a.eval s = v) (hx : a.eval x = .slice (some ⟨W.heap.size, 0, none⟩) 1 1)
    (HO : W.ownsRow base 3 1 v n xs) (hbase : base ≤ W.heap.size) (hl : n ≤ 1000000000)
    (h : ∀ v1 w1, w1.ownsRow base 3 1 v1 (n + 1) (xs ++ [i]) → (W.alloc (.cells cs 3)).grownBy w1 v.ownBlock → (v1.ownBlock = v.ownBlock ∨ v1.ownBlock = some (W.alloc (.cells cs 3)).heap.size) → wpList Tryz.prog ops Q rest (a.put o.dst v1) w1) :
    wpList Tryz.prog ops Q (o :: rest) a (W.alloc (.cells cs 3)) := by
  obtain ⟨i0, hi, hz0, hz1, hz2⟩ := info_parts infoInt
  refine wpList_append_own_at (W.alloc (.cells cs 3)) hgd s x 26 ho base 3 i0 (.int .i64 0) 1 8 Tryz.underlying26 hi hz0 hz1 hz2 rfl (by omega) v n _ hs (HO.alloc _) ⟨W.heap.size, 0, none⟩ 1 1 [i] hx rfl
    (fun j u hu => World.news_of_block (cs := cs) (t := 3) (fr := (0, 0)) (heap_alloc_new W _) j u (by rw [hcs]; exact hu)) (by simpa using h1) (by simp only [maxLen]; omega) (by omega) (by simp; omega) ?_
  intro v1 w1 hown hg _ hat
  exact h v1 w1 hown hg hat
theorem own_some {w : World} {base e size n : Nat} {v : Value} {xs : List Value} (h : w.ownsRow base e size v (n + 1) xs) : ∃ g cap, v = .slice (some ⟨g, 0, none⟩) (n + 1) cap := by
  rcases h.2 with ⟨_, h2⟩ | ⟨g, cap, _, e, _⟩
  · omega
  · exact ⟨g, cap, e⟩
theorem own_cell {w : World} {base e size n : Nat} {v : Value} {xs : List Value} (h : w.ownsRow base e size v n xs) : v.oneCell' = true := by
  rcases h.2 with ⟨h1, _⟩ | ⟨g, cap, _, e, _⟩
  · rw [h1]; rfl
  · rw [e]; rfl
theorem put_step1 {ts : List Tk} {B : Nat} {M : PM} {S : PS} {w W w1 : World} (h : PAt ts B M S w) (hb : Below w.heap.size w W) (p : PD) (v v1 : Value) (hk : kidRow w B v p.kids) (hd : ∀ b ∈ blocksOf M, b = none ∨ b ≠ v.ownBlock)
    (hg : W.grownBy w1 M.vp.ownBlock) (ho : w1.ownsRow B 49 4 v1 (S.parts.length + 1) (partRow S.parts M.kv ++ partCells p v)) (hat : v1.ownBlock = M.vp.ownBlock ∨ v1.ownBlock = some W.heap.size) (hs : S.parts.length + 1 ≤ S.pos) :
    w1.cell? ⟨M.P, 3, none⟩ = some M.vp ∧ w1.cell? ⟨M.P, 4, none⟩ = some M.vo ∧ (∀ j, w1.frozen? ⟨M.P, j, none⟩ = false) ∧
    PAt ts B { M with vp := v1, kv := M.kv ++ [v] } { S with parts := S.parts ++ [p] } (w1.setCell ⟨M.P, 3, none⟩ v1) ∧ PCore B M w (w1.setCell ⟨M.P, 3, none⟩ v1) { M with vp := v1, kv := M.kv ++ [v] } := by
  have hW := h.below hb
  have hP1 : w1.heap[M.P]? = _ := (hg.block M.P hW.lt (apart_P h.apart).1).trans hW.cells
  obtain ⟨g1, g2⟩ := hW.grow1 p v v1 (row_below hk hb) hd hg ho hat hs
  exact ⟨(Lib.cell_of_heap hP1 _).trans rfl, (Lib.cell_of_heap hP1 _).trans rfl, fun j => by simp [World.frozen?, hP1], g1, (PCore.of_below hb h.bsize).trans g2⟩
theorem put_step2 {ts : List Tk} {B : Nat} {M : PM} {S : PS} {w W w1 : World} (h : PAt ts B M S w) (hb : Below w.heap.size w W) (at_ : Nat) (v1 : Value)
    (hg : W.grownBy w1 M.vo.ownBlock) (ho : w1.ownsRow B 3 1 v1 (S.offs.length + 1) ((S.offs.map fun i => Value.int .i64 (placeT ts i : Nat)) ++ [Value.int .i64 (placeT ts at_ : Nat)])) (hat : v1.ownBlock = M.vo.ownBlock ∨ v1.ownBlock = some W.heap.size) (hs : S.offs.length + 1 ≤ S.pos) :
    w1.cell? ⟨M.P, 3, none⟩ = some M.vp ∧ w1.cell? ⟨M.P, 4, none⟩ = some M.vo ∧ (∀ j, w1.frozen? ⟨M.P, j, none⟩ = false) ∧
    PAt ts B { M with vo := v1 } { S with offs := S.offs ++ [at_] } (w1.setCell ⟨M.P, 4, none⟩ v1) ∧ PCore B M w (w1.setCell ⟨M.P, 4, none⟩ v1) { M with vo := v1 } := by
  have hW := h.below hb
  have hP1 : w1.heap[M.P]? = _ := (hg.block M.P hW.lt (apart_P h.apart).2.1).trans hW.cells
  obtain ⟨g1, g2⟩ := hW.grow2 at_ v1 hg ho hat hs
  exact ⟨(Lib.cell_of_heap hP1 _).trans rfl, (Lib.cell_of_heap hP1 _).trans rfl, fun j => by simp [World.frozen?, hP1], g1, (PCore.of_below hb h.bsize).trans g2⟩
set_option maxHeartbeats 8000000 in
set_option maxRecDepth 100000 in
theorem put_any {ts : List Tk} {B : Nat} {M : PM} {S : PS} {w : World} (h : PAt ts B M S w) (hT : TOK ts) (at_ : Nat) (p : PD) (v : Value) (hk : kidRow w B v p.kids) (hd : ∀ b ∈ blocksOf M, b = none ∨ b ≠ v.ownBlock) (hs : S.parts.length + 1 ≤ S.pos)
    (hol : S.offs.length + 1 ≤ S.pos) :
    Calls Tryz.prog 68 #[.pointer (some ⟨M.P, 0, none⟩), .int .i64 (placeT ts at_ : Nat), .agg #[.int .i64 p.kind, .string ⟨p.text.toArray⟩, .int .i64 p.num, v]] w
      fun e w' => e = .returned (.int .i64 S.parts.length) ∧ ∃ M', M'.kv = M.kv ++ [v] ∧ PAt ts B M' (putS at_ p S) w' ∧ PCore B M w w' M' := by
  have hB := h.PB
  have hBs := h.bsize
  have hp := h.pos
  have hl := hT.len
  have H := Lib.hid h
  have HK := Lib.hid hk
  have hv := own_cell hk
  have HD := Lib.hid hd
  have hz := h.lt
  have c3 : w.cell? ⟨M.P, 3, none⟩ = some M.vp := (Lib.cell_of_heap h.cells _).trans rfl
  have cf : ∀ j, w.frozen? ⟨M.P, j, none⟩ = false := fun j => by simp [World.frozen?, h.cells]
  have hone : ∀ u ∈ [Value.int .i64 p.kind, .string ⟨p.text.toArray⟩, .int .i64 p.num, v], u.oneCell' = true := by
    intro u hu
    simp only [List.mem_cons, List.not_mem_nil, or_false] at hu
    rcases hu with rfl | rfl | rfl | rfl
    · rfl
    · rfl
    · rfl
    · exact hv
  clear h hk hd
  go_enter Tryz.func68, Tryz.ntmps68
  go_wp2_with fail
  have hbW : Below w.heap.size w (((w.alloc (.cells #[.int .i64 p.kind, .string ⟨p.text.toArray⟩, .int .i64 p.num, v] 49)).drew).alloc (.cells #[.int .i64 p.kind, .string ⟨p.text.toArray⟩, .int .i64 p.num, v] 49)) := (((Below.refl _ _).alloc (Nat.le_refl _) _).drew).alloc (by simp) _
  have HW := Lib.hid hbW
  clear hbW
  go_region_law (refine app_part_step B rfl (.tmp 11) (.tmp 13) rfl _ _ (partCells p v) _ _ (by rfl) rfl hone (by simp [Act.eval]) (by simp [Act.eval]) ((H.out.parts.alloc _).drew) (by simp; omega) (by have := H.out.small; omega) ?_; intro v1 w1 hown hg1 hat1; obtain ⟨d1, d1b, d2, d3, d4⟩ := put_step1 H.out HW.out p v _ HK.out HD.out hg1 hown hat1 hs; obtain ⟨g1, cap1, rfl⟩ := own_some hown; have D3 := Lib.hid d3; have D4 := Lib.hid d4; clear d3 d4 hown hg1 hat1)
  all_goals
    have hz2 : M.P < w1.heap.size := by have := D3.out.lt; simpa using this
    have ho4 := D3.out.offs
    go_wp2_with (at_builtin; go_loud (refine app_int B rfl (.tmp 21) (.tmp 23) rfl _ _ _ (.int .i64 (placeT ts at_ : Nat)) _ rfl rfl rfl (by simp [Act.eval]) D3.out.offs (by have := D3.out.bsize; omega) (by simp; omega) ?_; intro v2 w2 hown2 hg2 hat2; obtain ⟨f1, f1b, f2, f3, f4⟩ := put_step2 D3.out ((Below.refl _ _).alloc (Nat.le_refl _) _) at_ _ hg2 hown2 hat2 hol; obtain ⟨g2, cap2, rfl⟩ := own_some hown2; have F3 := Lib.hid f3; have F4 := Lib.hid f4; clear f3 f4 hown2 hg2 hat2))
    have en : ((S.parts.length : Int) + 1 - 1) = (S.parts.length : Nat) := by omega
    go_ret
    exact ⟨by go_num, _, rfl, F3.out, D4.out.trans F4.out⟩

end Go.Proofs.YtfiljgkcipnghaaGreatDoor.X
