/-
  One step of the descent in memory: the contracts of the parser's small functions, told from the memory ahead of the whole.
  The walks of list, conj, expr.
  The walks of conj and expr.
  The walk of unit.
  The walk of set.
  The walks of side, scoped.
  The walk of owned.
  The walk of term.
  The walk of relation.
  The walk of atom.
  All levels of the descent.
-/
import Derived.Test.YtfiljgkcipnghaaGreatDoorParMem
import Derived.Recover
set_option linter.unusedVariables false
set_option linter.unusedSimpArgs false
namespace Go.Proofs.YtfiljgkcipnghaaGreatDoor.X
open Go.RowKit
/-- A function of the parser without an argument of its own walks as f says, at this nest. -/
def PFun (ts : List Tk) (F : Nat) (n : Nat) (f : PS → PR Nat) : Prop := ∀ (B : Nat) (M : PM) (S : PS) (w : World), PAt ts B M S w → S.nest = n →
  Calls Tryz.prog F #[.pointer (some ⟨M.P, 0, none⟩)] w (PAns ts B M w (fun i : Nat => .int .i64 i) (f S))
/-- From (M, w) the parser has come to (M1, S1, w1). -/
structure Stp (ts : List Tk) (B : Nat) (M : PM) (w : World) (M1 : PM) (S1 : PS) (w1 : World) : Prop where
  at_ : PAt ts B M1 S1 w1
  kept : PKept B M w w1 M1
  bw : B ≤ w.heap.size
section
variable {ts : List Tk} {B : Nat} {M M1 : PM} {S S1 : PS} {w w1 w2 : World}
theorem Stp.start (h : PAt ts B M S w) : Stp ts B M w M S w := ⟨h, PKept.of_below (Below.refl _ _) h.bsize, h.bsize⟩
theorem Stp.P (X : Stp ts B M w M1 S1 w1) : M1.P = M.P := X.kept.P
theorem Stp.below (X : Stp ts B M w M1 S1 w1) (hb : Below w1.heap.size w1 w2) : Stp ts B M w M1 S1 w2 := ⟨X.at_.below hb, X.kept.trans (PKept.of_below hb X.at_.bsize), X.bw⟩
theorem Stp.alloc (X : Stp ts B M w M1 S1 w1) (b : Obj) : Stp ts B M w M1 S1 (w1.alloc b) := X.below ((Below.refl _ _).alloc (Nat.le_refl _) _)
theorem Stp.lt (X : Stp ts B M w M1 S1 w1) : M.P < w1.heap.size := X.P ▸ X.at_.lt
theorem Stp.c1 (X : Stp ts B M w M1 S1 w1) : w1.cell? ⟨M.P, 1, none⟩ = some (.int .i64 S1.pos) := X.P ▸ (Lib.cell_of_heap X.at_.cells _).trans rfl
theorem Stp.c2 (X : Stp ts B M w M1 S1 w1) : w1.cell? ⟨M.P, 2, none⟩ = some (.int .i64 S1.nest) := X.P ▸ (Lib.cell_of_heap X.at_.cells _).trans rfl
theorem Stp.cf (X : Stp ts B M w M1 S1 w1) (j : Nat) : w1.frozen? ⟨M.P, j, none⟩ = false := by rw [← X.P]; simp [World.frozen?, X.at_.cells]
theorem Stp.mono (X : Stp ts B M w M1 S1 w1) (h : Below B w1 w2) : Below B w w2 := X.kept.below.trans h
theorem Stp.next (X : Stp ts B M w M1 S1 w1) (hp : S1.pos + 1 < ts.length) : Stp ts B M w M1 (on S1) (w1.setCell ⟨M.P, 1, none⟩ (.int .i64 ((S1.pos : Int) + 1))) := by
  obtain ⟨k1, k2⟩ := X.at_.turn (S1.pos + 1) S1.nest (set_pos X.at_.cells (.int .i64 ((S1.pos + 1 : Nat) : Int))) (set_grown _ _ _ _) hp (by omega)
  rw [X.P] at k1 k2
  exact ⟨k1, X.kept.trans k2, X.bw⟩
theorem Stp.unnest (X : Stp ts B M w M1 S1 w1) (hn : 1 ≤ S1.nest) : Stp ts B M w M1 (closeN S1) (w1.setCell ⟨M.P, 2, none⟩ (.int .i64 ((S1.nest : Int) - 1))) := by
  obtain ⟨k1, k2⟩ := X.at_.turn S1.pos (S1.nest - 1) (set_nest X.at_.cells (.int .i64 ((S1.nest - 1 : Nat) : Int))) (set_grown _ _ _ _) X.at_.pos (Nat.le_refl _)
  rw [X.P, show ((S1.nest - 1 : Nat) : Int) = (S1.nest : Int) - 1 by omega] at k1 k2
  exact ⟨k1, X.kept.trans k2, X.bw⟩
/-- What a step answers, told from (M, w), and what it has kept since (M1, w1). -/
def PStep {α : Type} (ts : List Tk) (B : Nat) (M : PM) (w : World) (M1 : PM) (w1 : World) (val : α → Value) (r : PR α) (e : Ending) (w' : World) : Prop := match r with
  | .ok (a, S') => ∃ M', e = .returned (val a) ∧ Stp ts B M w M' S' w' ∧ PKept B M1 w1 w' M'
  | .error f => e = .panicked [failV ts f] ∧ Below B w w'
theorem PAns.base {α : Type} {val : α → Value} {r : PR α} {e : Ending} (X : Stp ts B M w M1 S1 w1) (h : PAns ts B M1 w1 val r e w2) : PStep ts B M w M1 w1 val r e w2 := by
  cases r with
  | error f => exact ⟨h.1, X.mono h.2⟩
  | ok p =>
    obtain ⟨a, S'⟩ := p
    obtain ⟨M', h1, h2, h3⟩ := h
    exact ⟨M', h1, ⟨h2, X.kept.trans h3, X.bw⟩, h3⟩
theorem PAns.done {α : Type} {val : α → Value} {a : α} {S' : PS} {M' : PM} (X : Stp ts B M w M' S' w2) : PAns ts B M w val (.ok (a, S')) (.returned (val a)) w2 := ⟨M', rfl, X.at_, X.kept⟩
theorem Stp.fn {F n : Nat} {f : PS → PR Nat} (hF : PFun ts F n f) (X : Stp ts B M w M1 S1 w1) (hn : S1.nest = n) : Calls Tryz.prog F #[.pointer (some ⟨M.P, 0, none⟩)] w1 (PStep ts B M w M1 w1 (fun i : Nat => .int .i64 i) (f S1)) := by
  rw [← X.P]; exact (hF B M1 S1 w1 X.at_ hn).mono fun e w' h => h.base X
theorem Stp.peek (hT : TOK ts) (X : Stp ts B M w M1 S1 w1) : Calls Tryz.prog 29 #[.pointer (some ⟨M.P, 0, none⟩)] w1 fun e w' => e = .returned (.agg (tokCells (pk ts S1))) ∧ Stp ts B M w M1 S1 w' ∧ Below w1.heap.size w1 w' := by
  rw [← X.P]; exact (peek_any X.at_ hT).mono fun e w' h => ⟨h.1, X.below h.2, h.2⟩
theorem Stp.is (hT : TOK ts) (X : Stp ts B M w M1 S1 w1) (kind : Int) (text : ByteArray) : Calls Tryz.prog 67 #[.pointer (some ⟨M.P, 0, none⟩), .int .i64 kind, .string text] w1 fun e w' => e = .returned (.bool (isT ts S1 kind text.data.toList)) ∧ Stp ts B M w M1 S1 w' ∧ Below w1.heap.size w1 w' := by
  rw [← X.P]; exact (is_any X.at_ hT kind text).mono fun e w' h => ⟨h.1, X.below h.2, h.2⟩
theorem Stp.wrong (hT : TOK ts) (X : Stp ts B M w M1 S1 w1) : Calls Tryz.prog 30 #[.pointer (some ⟨M.P, 0, none⟩)] w1 fun e w' => e = .panicked [failV ts (wrongP ts S1)] ∧ Below B w w' := by
  rw [← X.P]; exact (wrong_any X.at_ hT).mono fun e w' h => ⟨h.1, X.mono (h.2.mono X.at_.bsize)⟩
theorem Stp.mark (hT : TOK ts) (X : Stp ts B M w M1 S1 w1) (text : ByteArray) : Calls Tryz.prog 113 #[.pointer (some ⟨M.P, 0, none⟩), .string text] w1 (PStep ts B M w M1 w1 (fun _ : Unit => .tuple #[]) (un (markP ts text.data.toList S1))) := by
  rw [← X.P]; exact (mark_any X.at_ hT text).mono fun e w' h => h.base X
theorem Stp.open (hT : TOK ts) (X : Stp ts B M w M1 S1 w1) (hn : S1.nest ≤ 32) (text : ByteArray) : Calls Tryz.prog 96 #[.pointer (some ⟨M.P, 0, none⟩), .string text] w1 (PStep ts B M w M1 w1 (fun _ : Unit => .tuple #[]) (un (openP ts text.data.toList S1))) := by
  rw [← X.P]; exact (open_any X.at_ hT text hn).mono fun e w' h => h.base X
theorem Stp.shut (hT : TOK ts) (X : Stp ts B M w M1 S1 w1) (hn : S1.nest ≤ 32) (hn1 : 1 ≤ S1.nest) : Calls Tryz.prog 97 #[.pointer (some ⟨M.P, 0, none⟩)] w1 (PStep ts B M w M1 w1 (fun _ : Unit => .tuple #[]) (un (shutP ts S1))) := by
  rw [← X.P]; exact (shut_any X.at_ hT hn hn1).mono fun e w' h => h.base X
theorem Stp.text (hT : TOK ts) (X : Stp ts B M w M1 S1 w1) : Calls Tryz.prog 115 #[.pointer (some ⟨M.P, 0, none⟩)] w1 (PStep ts B M w M1 w1 (fun s : Bs => .string ⟨s.toArray⟩) (textP ts S1)) := by
  rw [← X.P]; exact (text_any' X.at_ hT).mono fun e w' h => h.base X
/-- What put answers. -/
def PPut (ts : List Tk) (B : Nat) (M : PM) (w : World) (M1 : PM) (S1 : PS) (w1 : World) (a : Nat) (p : PD) (v : Value) (e : Ending) (w' : World) : Prop :=
  e = .returned (.int .i64 S1.parts.length) ∧ ∃ M', Stp ts B M w M' (putS a p S1) w' ∧ ((∀ g, v.ownBlock = some g → w1.heap.size ≤ g) → PKept B M1 w1 w' M')
/-- A part whose kids lie in a row v that is new since w. -/
theorem Stp.putV (hT : TOK ts) (X : Stp ts B M w M1 S1 w1) (a : Nat) (p : PD) (v : Value) (hk : kidRow w1 B v p.kids) (hv : ∀ g, v.ownBlock = some g → w.heap.size ≤ g) (hd : ∀ g, v.ownBlock = some g → ∀ b ∈ blocksOf M1, b ≠ some g)
    (hs : S1.parts.length + 1 ≤ S1.pos) (ho : S1.offs.length + 1 ≤ S1.pos) :
    Calls Tryz.prog 68 #[.pointer (some ⟨M.P, 0, none⟩), .int .i64 (placeT ts a : Nat), .agg #[.int .i64 p.kind, .string ⟨p.text.toArray⟩, .int .i64 p.num, v]] w1 (PPut ts B M w M1 S1 w1 a p v) := by
  rw [← X.P]
  refine (put_any X.at_ hT a p v hk (fun b hb => ?_) hs ho).mono ?_
  · cases e : v.ownBlock with
    | none => cases b with
      | none => exact .inl rfl
      | some k => exact .inr (by simp)
    | some g => exact .inr (hd g e b hb)
  · rintro e w' ⟨rfl, M', h1, h2, h3⟩
    have hk : ∀ {Mx : PM} {wx : World}, PKept B Mx wx w1 M1 → (∀ g, v.ownBlock = some g → wx.heap.size ≤ g) → PKept B Mx wx w' M' := fun k hv => ⟨k.toPCore.trans h3, fun u hu => by
      rw [h1, List.mem_append, List.mem_singleton] at hu
      rcases hu with hu | rfl
      · exact k.kv u hu
      · exact .inr hv⟩
    exact ⟨rfl, M', ⟨h2, hk X.kept hv, X.bw⟩, fun hv2 => hk (PKept.of_below (Below.refl _ _) X.at_.bsize) hv2⟩
/-- A part without kids. -/
theorem Stp.put0 (hT : TOK ts) (X : Stp ts B M w M1 S1 w1) (a : Nat) (kind : Int) (text : Bs) (num : Int) (hs : S1.parts.length + 1 ≤ S1.pos) (ho : S1.offs.length + 1 ≤ S1.pos) :
    Calls Tryz.prog 68 #[.pointer (some ⟨M.P, 0, none⟩), .int .i64 (placeT ts a : Nat), .agg #[.int .i64 kind, .string ⟨text.toArray⟩, .int .i64 num, .slice none 0 0]] w1 fun e w' =>
      e = .returned (.int .i64 S1.parts.length) ∧ ∃ M', Stp ts B M w M' (putS a ⟨kind, text, num, []⟩ S1) w' ∧ PKept B M1 w1 w' M' :=
  (X.putV hT a ⟨kind, text, num, []⟩ (.slice none 0 0) ⟨rfl, .inl ⟨rfl, rfl⟩⟩ (fun g e => by cases e) (fun g e => by cases e) hs ho).mono (fun e w' ⟨h1, M', h2, h3⟩ => ⟨h1, M', h2, h3 (fun g e => by cases e)⟩)
/-- A part whose kids have just been written down. -/
theorem Stp.putK (hT : TOK ts) (X : Stp ts B M w M1 S1 w1) (a : Nat) (kind : Int) (text : Bs) (num : Int) (kids : List Nat) (cs : Array Value) (n g : Nat) (hg : g = w1.heap.size) (hn : n = kids.length) (hc : cs.toList = kids.map fun k => Value.int .i64 (k : Nat)) (hkl : kids.length ≤ 100)
    (hs : S1.parts.length + 1 ≤ S1.pos) (ho : S1.offs.length + 1 ≤ S1.pos) :
    Calls Tryz.prog 68 #[.pointer (some ⟨M.P, 0, none⟩), .int .i64 (placeT ts a : Nat), .agg #[.int .i64 kind, .string ⟨text.toArray⟩, .int .i64 num, .slice (some ⟨g, 0, none⟩) n n]]
      (w1.alloc (.cells cs 3)) (fun e w' => e = .returned (.int .i64 S1.parts.length) ∧ ∃ M', Stp ts B M w M' (putS a ⟨kind, text, num, kids⟩ S1) w') := by
  subst hn
  subst hg
  have hz : cs.size = kids.length := by rw [← Array.length_toList, hc, List.length_map]
  refine ((X.alloc _).putV hT a ⟨kind, text, num, kids⟩ (.slice (some ⟨w1.heap.size, 0, none⟩) kids.length kids.length) ?_ ?_ ?_ hs ho).mono (fun e w' ⟨h1, M', h2, _⟩ => ⟨h1, M', h2⟩)
  · have h := World.ownsRow_lit (base := B) (e := 3) (size := 1) w1 cs kids.length X.at_.bsize (by simp only [maxLen]; omega) (by omega)
    rw [hc] at h
    exact h
  · intro g e; injection e with e; subst e; exact X.kept.size
  · intro g e; injection e with e; subst e; exact X.at_.fresh (Nat.le_refl _)
/-- A block that lay there, and that the parser did not hold, lies there still. -/
theorem Stp.old (X : Stp ts B M w M1 S1 w1) {g : Nat} (hg : g < w.heap.size) (hf : ∀ b ∈ blocksOf M, b ≠ some g) : w1.heap[g]? = w.heap[g]? :=
  X.kept.keeps g hg (fun e => hf (some M.P) (by simp [blocksOf]) (by rw [e])) (fun e => hf _ (by simp [blocksOf]) e.symm) (fun e => hf _ (by simp [blocksOf]) e.symm)
end
theorem then_okE {β : Type} (S : PS) (f : PS → PR β) : thenS (.ok S) f = f S := rfl
theorem then_errE {β : Type} (x : PF) (f : PS → PR β) : thenS (.error x) f = .error x := rfl
theorem bind_okE {α β : Type} (a : α) (S : PS) (f : α → PS → PR β) : bindS (.ok (a, S)) f = f a S := rfl
theorem bind_errE {α β : Type} (x : PF) (f : α → PS → PR β) : bindS (.error x) f = .error x := rfl
/-- A call that answers by PAns: its two ways on. -/
theorem ans {α : Type} {ts : List Tk} {B : Nat} {M M1 : PM} {w w1 : World} {F : Nat} {args : Array Value} {val : α → Value} {r : PR α} {Q : Ending → World → Prop} (C : Calls Tryz.prog F args w1 (PStep ts B M w M1 w1 val r))
    (he : ∀ f w', r = .error f → Below B w w' → Q (.panicked [failV ts f]) w') (ho : ∀ a S' M' w', r = .ok (a, S') → Stp ts B M w M' S' w' → PKept B M1 w1 w' M' → Q (.returned (val a)) w') : Calls Tryz.prog F args w1 Q :=
  C.mono fun e w' h => by
    cases r with
    | error f => obtain ⟨rfl, h2⟩ := h; exact he f w' rfl h2
    | ok p => obtain ⟨a, S'⟩ := p; obtain ⟨M', rfl, h2, h3⟩ := h; exact ho a S' M' w' rfl h2 h3
theorem ansU {ts : List Tk} {B : Nat} {M M1 : PM} {w w1 : World} {F : Nat} {args : Array Value} {val : Unit → Value} {x : Except PF PS} {Q : Ending → World → Prop} (C : Calls Tryz.prog F args w1 (PStep ts B M w M1 w1 val (un x)))
    (he : ∀ f w', x = .error f → Below B w w' → Q (.panicked [failV ts f]) w') (ho : ∀ S' M' w', x = .ok S' → Stp ts B M w M' S' w' → PKept B M1 w1 w' M' → Q (.returned (val ())) w') : Calls Tryz.prog F args w1 Q :=
  C.mono fun e w' h => by
    cases x with
    | error f => obtain ⟨rfl, h2⟩ := h; exact he f w' rfl h2
    | ok S' => obtain ⟨M', rfl, h2, h3⟩ := h; exact ho S' M' w' rfl h2 h3
/-- A block beside the parser's. -/
structure Loc (M1 : PM) (w1 : World) (g : Nat) (b : Obj) : Prop where
  at_ : w1.heap[g]? = some b
  off : ∀ x ∈ blocksOf M1, x ≠ some g
section
variable {B : Nat} {M1 M2 : PM} {w1 w2 : World} {g : Nat} {b : Obj}
theorem Loc.lt (L : Loc M1 w1 g b) : g < w1.heap.size := (Array.getElem?_eq_some_iff.1 L.at_).1
theorem Loc.P (L : Loc M1 w1 g b) : M1.P ≠ g := fun e => L.off (some M1.P) (by simp [blocksOf]) (by rw [e])
theorem Loc.below (L : Loc M1 w1 g b) (h : Below w1.heap.size w1 w2) : Loc M1 w2 g b := ⟨(h.block g L.lt).trans L.at_, L.off⟩
theorem Loc.step (L : Loc M1 w1 g b) (k : PKept B M1 w1 w2 M2) : Loc M2 w2 g b :=
  ⟨(k.keeps g L.lt (fun e => L.P e.symm) (fun e => L.off _ (by simp [blocksOf]) e.symm) (fun e => L.off _ (by simp [blocksOf]) e.symm)).trans L.at_, k.apart L.lt L.off⟩
theorem Loc.other (L : Loc M1 w1 g b) {g2 : Nat} (hg : g2 ≠ g) (j : Nat) (v : Value) : Loc M1 (w1.setCell ⟨g2, j, none⟩ v) g b := ⟨(Below.heap_setCell _ _ _ g (fun e => hg e.symm)).trans L.at_, L.off⟩
theorem Loc.alloc (L : Loc M1 w1 g b) (b2 : Obj) : Loc M1 (w1.alloc b2) g b := L.below ((Below.refl _ _).alloc (Nat.le_refl _) _)
theorem Loc.new {ts : List Tk} {S1 : PS} (h : PAt ts B M1 S1 w1) (b : Obj) : Loc M1 (w1.alloc b) w1.heap.size b := ⟨Go.heap_alloc_new w1 b, h.fresh (Nat.le_refl _)⟩
theorem Loc.cell {cs : Array Value} {T : TypeId} (L : Loc M1 w1 g (.cells cs T (0, 0))) (j : Nat) : w1.cell? ⟨g, j, none⟩ = cs[j]? := Lib.cell_of_heap L.at_ j
theorem Loc.frozen {cs : Array Value} {T : TypeId} (L : Loc M1 w1 g (.cells cs T (0, 0))) (j : Nat) : w1.frozen? ⟨g, j, none⟩ = false := by simp [World.frozen?, L.at_]
theorem Loc.poke {cs : Array Value} {T : TypeId} (L : Loc M1 w1 g (.cells cs T (0, 0))) (j : Nat) (v : Value) : Loc M1 (w1.setCell ⟨g, j, none⟩ v) g (.cells (cs.setIfInBounds j v) T (0, 0)) := ⟨heap_setCell_same _ _ _ _ _ _ L.at_, L.off⟩
theorem Stp.poke {ts : List Tk} {M : PM} {w : World} {S1 : PS} (X : Stp ts B M w M1 S1 w1) (L : Loc M1 w1 g b) (hg : w.heap.size ≤ g) (j : Nat) (v : Value) : Stp ts B M w M1 S1 (w1.setCell ⟨g, j, none⟩ v) :=
  ⟨X.at_.grown (set_grown w1 g j v) (fun k e => by cases e; exact ⟨Nat.le_trans X.bw hg, L.off⟩), X.kept.grown (set_grown w1 g j v) X.bw (fun k e => by cases e; exact hg), X.bw⟩
end
theorem tokPlace (ts : List Tk) (S : PS) : placeT ts S.pos = (pk ts S).at_ := rfl
/-- What one level deeper answers. -/
structure LvOK (ts : List Tk) (n : Nat) (lo : Lv) : Prop where
  expr : PFun ts 28 n lo.expr
  unit : PFun ts 69 n lo.unit
  term : PFun ts 116 n lo.term

end Go.Proofs.YtfiljgkcipnghaaGreatDoor.X
set_option linter.unusedVariables false
set_option linter.unusedSimpArgs false
namespace Go.Proofs.YtfiljgkcipnghaaGreatDoor.X
open Go.RowKit
set_option maxHeartbeats 8000000 in
set_option maxRecDepth 100000 in
theorem own_block {w w' : World} {base e size n : Nat} {v : Value} {xs : List Value} (h : w.ownsRow base e size v n xs) (hk : ∀ k, v.ownBlock = some k → w'.heap[k]? = w.heap[k]?) : w'.ownsRow base e size v n xs := by
  refine ⟨h.1, ?_⟩
  rcases h.2 with h2 | ⟨g, cap, cur, e, h3, h4, h5⟩
  · exact .inl h2
  · exact .inr ⟨g, cap, cur, e, h3, (hk g (by rw [e]; rfl)).trans h4, h5⟩
theorem own_weak {w : World} {base base' e size n : Nat} {v : Value} {xs : List Value} (h : w.ownsRow base e size v n xs) (hb : base' ≤ base) : w.ownsRow base' e size v n xs := by
  refine ⟨h.1, ?_⟩
  rcases h.2 with h2 | ⟨g, cap, cur, e, h3, h4⟩
  · exact .inl h2
  · exact .inr ⟨g, cap, cur, e, Nat.le_trans hb h3, h4⟩
/-- A row of kids under way. -/
structure LI (ts : List Tk) (B : Nat) (M : PM) (S S1 : PS) (w : World) (n : Nat) (between : Bs) (one : PS → PR Nat) (first : Nat) (v : Value) (wr : World) (M' : PM) (S' : PS) (kids : List Nat) (m : Nat) : Prop where
  at_ : PAt ts B M' S' wr
  bw : B ≤ w.heap.size
  kept : PKept B M w wr M'
  row : wr.ownsRow w.heap.size 3 1 v kids.length (kids.map fun k => Value.int .i64 (k : Nat))
  apart : ∀ k, v.ownBlock = some k → ∀ b ∈ blocksOf M', b ≠ some k
  nest : S'.nest = n
  spec : listLoop ts between one 5000 [first] S1 = listLoop ts between one m kids S'
  fuel : ts.length - S'.pos < m
  klen : 1 ≤ kids.length
  kbound : kids.length ≤ S'.pos + 1
  fair : Fair S S'
  strict : 1 < kids.length → S'.parts.length + 1 + S.pos ≤ S'.pos + S.parts.length
theorem LI.below {ts : List Tk} {B : Nat} {M : PM} {S S1 : PS} {w : World} {n : Nat} {between : Bs} {one : PS → PR Nat} {first : Nat} {v : Value} {wr w2 : World} {M' : PM} {S' : PS} {kids : List Nat} {m : Nat}
    (h : LI ts B M S S1 w n between one first v wr M' S' kids m) (hb : Below wr.heap.size wr w2) : LI ts B M S S1 w n between one first v w2 M' S' kids m :=
  ⟨h.at_.below hb, h.bw, h.kept.trans (PKept.of_below hb h.at_.bsize), row_below h.row hb, h.apart, h.nest, h.spec, h.fuel, h.klen, h.kbound, h.fair, h.strict⟩
theorem LI.start {ts : List Tk} {B : Nat} {M : PM} {S S1 : PS} {w w2 : World} {n : Nat} {between : Bs} {one : PS → PR Nat} {first : Nat} {M' : PM} (hT : TOK ts)
    (ha : PAt ts B M' S1 w2) (hbw : B ≤ w.heap.size) (hk : PKept B M w w2 M') (hf : Fair S S1) (hn : S1.nest = n) :
    LI ts B M S S1 w n between one first (.slice (some ⟨w2.heap.size, 0, none⟩) 1 1) (w2.alloc (.cells #[.int .i64 (first : Nat)] 3)) M' S1 [first] 5000 := by
  have hb : Below w2.heap.size w2 (w2.alloc (.cells #[.int .i64 (first : Nat)] 3)) := (Below.refl _ _).alloc (Nat.le_refl _) _
  have hl := hT.len
  refine ⟨ha.below hb, hbw, hk.trans (PKept.of_below hb ha.bsize), ?_, ?_, hn, rfl, by omega, Nat.le_refl _, by simp, hf, fun e => absurd e (by simp)⟩
  · have h := World.ownsRow_lit (base := w2.heap.size) (e := 3) (size := 1) w2 #[.int .i64 (first : Nat)] 1 (Nat.le_refl _) (by simp [maxLen]) (by simp)
    exact own_weak (by simpa using h) hk.size
  · intro k e
    injection e with e
    subst e
    exact ha.fresh (Nat.le_refl _)
theorem LI.turn {ts : List Tk} {B : Nat} {M : PM} {S S1 : PS} {w : World} {n : Nat} {between : Bs} {one : PS → PR Nat} {first : Nat} {v : Value} {w2 : World} {M' : PM} {S' : PS} {kids : List Nat} {m : Nat} (hT : TOK ts)
    (h : LI ts B M S S1 w n between one first v w2 M' S' kids m) (hi : isT ts S' 4 between = true) : PAt ts B M' (on S') (w2.setCell ⟨M'.P, 1, none⟩ (.int .i64 (S'.pos + 1 : Nat))) ∧ PKept B M' w2 (w2.setCell ⟨M'.P, 1, none⟩ (.int .i64 (S'.pos + 1 : Nat))) M' :=
  h.at_.turn (S'.pos + 1) S'.nest (set_pos h.at_.cells _) (set_grown _ _ _ _) (pos_next hT h.at_.pos (by rw [isT_kind hi]; decide)) (by omega)
theorem LI.step {ts : List Tk} {B : Nat} {M : PM} {S S1 : PS} {w : World} {n : Nat} {between : Bs} {one : PS → PR Nat} {first : Nat} {v v6 : Value} {w2 w4 w6 : World} {M' M'' : PM} {S' S'' : PS} {kids : List Nat} {m : Nat} {i : Nat} (hT : TOK ts) (hf : FairF one)
    (h : LI ts B M S S1 w n between one first v w2 M' S' kids (m + 1)) (hi : isT ts S' 4 between = true) (ho : one (on S') = .ok (i, S''))
    (ha : PAt ts B M'' S'' w4) (hk : PKept B M' (w2.setCell ⟨M'.P, 1, none⟩ (.int .i64 (S'.pos + 1 : Nat))) w4 M'') (hg : (w4.alloc (.cells #[.int .i64 (i : Nat)] 3)).grownBy w6 v.ownBlock)
    (hown : w6.ownsRow w.heap.size 3 1 v6 (kids.length + 1) ((kids.map fun k => Value.int .i64 (k : Nat)) ++ [Value.int .i64 (i : Nat)])) (hat : v6.ownBlock = v.ownBlock ∨ v6.ownBlock = some (w4.alloc (.cells #[.int .i64 (i : Nat)] 3)).heap.size) :
    LI ts B M S S1 w n between one first v6 w6 M'' S'' (kids ++ [i]) m := by
  obtain ⟨k1, k2⟩ := h.turn hT hi
  have hb5 : Below w4.heap.size w4 (w4.alloc (.cells #[.int .i64 (i : Nat)] 3)) := (Below.refl _ _).alloc (Nat.le_refl _) _
  have hB := h.at_.bsize
  have hz3 := (KeepsWalks.setCell w2 ⟨M'.P, 1, none⟩ (.int .i64 (S'.pos + 1 : Nat))).size
  have hap : ∀ k, v.ownBlock = some k → ∀ b ∈ blocksOf M'', b ≠ some k := fun k e => hk.apart (Nat.lt_of_lt_of_le (h.row.lt k e).2 k2.size) (h.apart k e)
  have hf2 := hf _ _ _ ho
  have hfr := h.fair
  have hn2 := hf2.nest
  have hg2 := hf2.grow
  have hp2 := hf2.pos
  simp only [X.on] at hn2 hg2 hp2
  have hsz : w.heap.size ≤ w4.heap.size := Nat.le_trans h.kept.size (Nat.le_trans k2.size hk.size)
  have hrow4 : ∀ k, v.ownBlock = some k → w.heap.size ≤ k := fun k e => (h.row.lt k e).1
  have hbw := h.bw
  have hpos := h.at_.pos
  have a4 : PAt ts B M'' S'' w6 := (ha.below hb5).grown hg (fun k e => ⟨Nat.le_trans hbw (hrow4 k e), hap k e⟩)
  refine ⟨a4, hbw, ?_, ?_, ?_, by rw [hn2]; exact h.nest, ?_, ?_, by simp, ?_, ?_, ?_⟩
  · have q := (h.kept.trans (k2.trans hk)).trans (PKept.of_below hb5 ha.bsize)
    exact q.grown hg hbw hrow4
  · rw [List.length_append, List.map_append]; exact hown
  · intro k e
    rcases hat with e2 | e2
    · exact hap k (by rw [← e2]; exact e)
    · rw [e2] at e; injection e with e; subst e
      exact (ha.below hb5).fresh (Nat.le_refl _)
  · rw [h.spec]; simp only [listLoop, hi, if_true, ho]
  · have := h.fuel; omega
  · have := h.kbound; simp; omega
  · exact hfr.trans ((Fair.on S').trans hf2)
  · intro _
    have := hfr.grow
    omega
theorem callFunc_conj (args : Array Value) (w : World) : (callFunc 45 args).run Tryz.prog w = .ok (.enter 45 args) w := by kernel_rfl
theorem LI.rowStep {ts : List Tk} {B : Nat} {M : PM} {S S1 : PS} {w : World} {n : Nat} {between : Bs} {one : PS → PR Nat} {first : Nat} {v : Value} {w2 w4 : World} {M' M'' : PM} {S' : PS} {kids : List Nat} {m : Nat} (hT : TOK ts)
    (h : LI ts B M S S1 w n between one first v w2 M' S' kids m) (hi : isT ts S' 4 between = true) (hk : PKept B M' (w2.setCell ⟨M'.P, 1, none⟩ (.int .i64 (S'.pos + 1 : Nat))) w4 M'') :
    w4.ownsRow w.heap.size 3 1 v kids.length (kids.map fun k => Value.int .i64 (k : Nat)) := by
  obtain ⟨_, k2⟩ := h.turn hT hi
  exact own_block h.row (fun k e => (k2.trans hk).keeps k (h.row.lt k e).2 (fun e2 => h.apart k e (some M'.P) (by simp [blocksOf]) (by rw [e2])) (fun e2 => h.apart k e _ (by simp [blocksOf]) e2.symm) (fun e2 => h.apart k e _ (by simp [blocksOf]) e2.symm))
def sliceLen : Value → Nat
  | .slice _ n _ => n
  | _ => 0
set_option maxHeartbeats 8000000 in
set_option maxRecDepth 100000 in
theorem list_any {ts : List Tk} (hT : TOK ts) {n : Nat} (hn : n ≤ 32) {F : Nat} (hE : ∀ (args : Array Value) (w : World), (callFunc F args).run Tryz.prog w = .ok (.enter F args) w) {one : PS → PR Nat} (h1 : PFun ts F n one) (hf : FairF one) {B : Nat} {M : PM} {S : PS} {w : World} (h : PAt ts B M S w) (hS : S.nest = n) (between : ByteArray) (kind : Int) :
    Calls Tryz.prog 44 #[.pointer (some ⟨M.P, 0, none⟩), .string between, .int .i64 kind, .func (.func F) #[.pointer (some ⟨M.P, 0, none⟩)] #[]] w
      (PAns ts B M w (fun i : Nat => .int .i64 i) (listP ts between.data.toList kind one S)) := by
  have OC := Lib.hid (h1 B M S w h hS)
  have H := Lib.hid h
  have hBs := h.bsize
  unfold listP
  cases ho : one S with
  | error f =>
    rw [ho] at OC
    clear ho h
    go_enter Tryz.func44, Tryz.ntmps44
    go_wp2_with (go_at_fn F; refine OC.out.mono ?_; rintro e w2 ⟨rfl, hB2⟩)
    exact ⟨rfl, rfl, hB2⟩
  | ok p =>
    obtain ⟨first, S1⟩ := p
    rw [ho] at OC
    have hfr := hf _ _ _ ho
    obtain ⟨R, hR⟩ : ∃ R, R = listLoop ts between.data.toList one 5000 [first] S1 := ⟨_, rfl⟩
    simp only
    rw [← hR]
    have HR := Lib.hid hR
    have hn1 : S1.nest = n := hfr.nest.trans hS
    have PK : Hid (∀ (M2 : PM) (w' : World), PAt ts B M2 S1 w' → M2.P = M.P → Calls Tryz.prog 29 #[.pointer (some ⟨M.P, 0, none⟩)] w' fun e w'' => e = .returned (.agg (tokCells (pk ts S1))) ∧ Below w'.heap.size w' w'') :=
      Lib.hid (fun M2 w' h2 e => e ▸ peek_any h2 hT)
    have HPl := Lib.hid (tokPlace ts S1)
    generalize pk ts S1 = t at PK HPl
    have HF := Lib.hid hfr
    have HH1 := Lib.hid h1
    have tf := tokField
    clear ho h hR hfr h1
    go_enter Tryz.func44, Tryz.ntmps44
    go_wp2_with (first | (go_at_fn F; refine OC.out.mono ?_; rintro e w2 ⟨M2, rfl, h2, k2⟩; have H2 := Lib.hid h2; have K2 := Lib.hid k2; have LI0 := Lib.hid (LI.start (between := between.data.toList) (one := one) (first := first) hT h2 (H.out.bsize) k2 HF.out hn1); have hP2 := Lib.hid k2.P; clear h2 k2) | (go_at_call 29; refine (PK.out M2 _ LI0.out.at_ hP2.out).mono ?_; rintro e w4 ⟨he, hB4⟩; simp only [tokCells] at he; subst he; have LI1 := Lib.hid (LI0.out.below hB4); clear hB4))
    go_loopw [10] (fun v wr => ∃ M' S' kids m, Hid (LI ts B M S S1 w n between.data.toList one first v wr M' S' kids m)) (fun v _ => ts.length + 1 - sliceLen v)
    case atStart => exact ⟨M2, S1, [first], 5000, LI1⟩
    case round =>
      obtain ⟨M', S', kids, m, HL⟩ := hrel
      have hP : M'.P = M.P := HL.out.kept.P
      obtain ⟨kl, hkl⟩ : ∃ kl, kids.length = kl + 1 := ⟨kids.length - 1, by have := HL.out.klen; omega⟩
      have hrow := HL.out.row
      rw [hkl] at hrow
      obtain ⟨g, cap, rfl⟩ := own_some hrow
      have hkb := HL.out.kbound
      have hpos := HL.out.at_.pos
      have hpl := hT.len
      have IS := is_any HL.out.at_ hT 4 between
      rw [hP] at IS
      have IS := Lib.hid IS
      have HS := HR.out.trans HL.out.spec
      obtain ⟨m', rfl⟩ : ∃ m', m = m' + 1 := ⟨m - 1, by have := HL.out.fuel; omega⟩
      clear hrow
      cases hi : isT ts S' 4 between.data.toList with
      | true =>
        rw [hi] at IS
        simp only [listLoop, hi, if_true] at HS
        have hn2 : (on S').nest = n := HL.out.nest
        have OC2 : Hid (∀ w2, Below wr.heap.size wr w2 → Calls Tryz.prog F #[.pointer (some ⟨M.P, 0, none⟩)] (w2.setCell ⟨M.P, 1, none⟩ (.int .i64 ((S'.pos : Int) + 1))) (PAns ts B M' (w2.setCell ⟨M.P, 1, none⟩ (.int .i64 ((S'.pos : Int) + 1))) (fun i : Nat => .int .i64 i) (one (on S')))) :=
          Lib.hid (fun w2 hb => by
            have q := ((HL.out.below hb).turn hT hi).1
            have c := HH1.out B M' (on S') _ q hn2
            rw [hP] at c
            exact c)
        have HI := Lib.hid hi
        have HPP := Lib.hid hP
        cases ho : one (on S') with
        | error f =>
          rw [ho] at OC2 HS
          have HE := Lib.hid HS
          clear HS ho hi hP
          go_wp2_with (first | (go_at_fn F; refine OC3.out.mono ?_; rintro e w3 ⟨rfl, hB3⟩) | (go_at_call 67; refine IS.out.mono ?_; rintro e w2 ⟨rfl, hB2⟩; have L2 := HL.out.below hB2; have c1 : w2.cell? ⟨M.P, 1, none⟩ = some (.int .i64 S'.pos) := HPP.out ▸ (Lib.cell_of_heap L2.at_.cells _).trans rfl; have cf : ∀ j, w2.frozen? ⟨M.P, j, none⟩ = false := (fun j => by rw [← HPP.out]; simp [World.frozen?, L2.at_.cells]); have OC3 := Lib.hid (OC2.out _ hB2); have L3 := Lib.hid L2; clear hB2 L2))
          have eR := HE.out
          subst eR
          have q := (L3.out.kept.trans (L3.out.turn hT HI.out).2).below
          rw [HPP.out] at q
          exact ⟨rfl, rfl, q.trans hB3⟩
        | ok p =>
          obtain ⟨i, S''⟩ := p
          have HO := Lib.hid ho
          rw [ho] at OC2 HS
          have HE := Lib.hid HS
          clear HS ho hi hP
          go_wp2_with (first | (at_builtin; go_loud (refine app_int w.heap.size rfl (.tmp 29) (.tmp 32) rfl _ _ _ (.int .i64 (i : Nat)) _ rfl rfl rfl (by simp [Act.eval]) (RS.out) (by have := RS.out.lt g rfl; omega) (by omega) ?_; intro v6 w6 hown hg6 hat; have LS := Lib.hid (LI.step hT hf L3.out HI.out HO.out H4.out K4.out hg6 hown hat); rw [hkl] at hown; obtain ⟨g6, cap6, rfl⟩ := own_some hown; clear hown hg6 hat)) | (go_at_fn F; refine OC3.out.mono ?_; rintro e w4 ⟨M4, rfl, h4, k4⟩; have k5 : PKept B M' (w2.setCell ⟨M'.P, 1, none⟩ (.int .i64 (S'.pos + 1 : Nat))) w4 M4 := (by rw [HPP.out]; exact k4); have RS := Lib.hid (L3.out.rowStep hT HI.out k5); have H4 := Lib.hid h4; have K4 := Lib.hid k5; clear h4 k4 k5) | (go_at_call 67; refine IS.out.mono ?_; rintro e w2 ⟨rfl, hB2⟩; have L2 := HL.out.below hB2; have c1 : w2.cell? ⟨M.P, 1, none⟩ = some (.int .i64 S'.pos) := HPP.out ▸ (Lib.cell_of_heap L2.at_.cells _).trans rfl; have cf : ∀ j, w2.frozen? ⟨M.P, j, none⟩ = false := (fun j => by rw [← HPP.out]; simp [World.frozen?, L2.at_.cells]); have OC3 := Lib.hid (OC2.out _ hB2); have L3 := Lib.hid L2; clear hB2 L2))
          go_roundw
          case rel => exact ⟨M4, S'', kids ++ [i], m', LS⟩
          case measure => simp [sliceLen]; omega
      | false =>
        rw [hi] at IS
        simp only [listLoop, hi, Bool.false_eq_true, if_false] at HS
        have HE := Lib.hid HS
        have HPP := Lib.hid hP
        clear HS hi hP
        rcases Nat.eq_zero_or_pos kl with hk0 | hk0
        · subst hk0
          go_wp2_with (go_at_call 67; refine IS.out.mono ?_; rintro e w2 ⟨rfl, hB2⟩; have L3 := Lib.hid (HL.out.below hB2); clear hB2)
          go_ret
          have eR := HE.out
          subst eR
          simp only [listEnd, hkl, if_true]
          exact ⟨M', rfl, L3.out.at_, L3.out.kept⟩
        · have e1 : (((kl + 1 : Nat) : Int) == 1) = false := by rw [beq_eq_false_iff_ne]; omega
          have e2 : (((kl : Int) + 1) == 1) = false := by rw [beq_eq_false_iff_ne]; omega
          have e3 : ((kl : Int) == 0) = false := by rw [beq_eq_false_iff_ne]; omega
          go_wp2_with (first | (go_at_call 68; have PC := LX.out.putV hT S1.pos ⟨kind, [], 0, kids⟩ (.slice (some ⟨g, 0, none⟩) (kl + 1) cap) (own_weak L3.out.row hBs) (fun g e => (L3.out.row.lt g e).1) L3.out.apart hs3 ho3; rw [HPl.out] at PC; refine PC.mono ?_; rintro e wp ⟨rfl, Mp, xp, _⟩; have XP := Lib.hid xp; clear xp PC) | (go_at_call 67; refine IS.out.mono ?_; rintro e w2 ⟨rfl, hB2⟩; have L3 := Lib.hid (HL.out.below hB2); have LX : Hid (Stp ts B M w M' S' w2) := Lib.hid ⟨L3.out.at_, L3.out.kept, hBs⟩; have hs3 : S'.parts.length + 1 ≤ S'.pos := (by have := L3.out.strict (by omega); have := H.out.small; omega); have ho3 : S'.offs.length + 1 ≤ S'.pos := (by have := L3.out.strict (by omega); have := H.out.small; have := H.out.osmall; have := L3.out.fair.offs; omega); clear hB2))
          go_ret
          have eR := HE.out
          subst eR
          simp only [listEnd]
          rw [if_neg (by omega)]
          exact PAns.done XP.out

end Go.Proofs.YtfiljgkcipnghaaGreatDoor.X
set_option linter.unusedVariables false
set_option linter.unusedSimpArgs false
namespace Go.Proofs.YtfiljgkcipnghaaGreatDoor.X
open Go.RowKit
theorem callFunc_unit (args : Array Value) (w : World) : (callFunc 69 args).run Tryz.prog w = .ok (.enter 69 args) w := by kernel_rfl
set_option maxHeartbeats 8000000 in
set_option maxRecDepth 100000 in
theorem conj_any {ts : List Tk} (hT : TOK ts) {n : Nat} (hn : n ≤ 32) {lo : Lv} (h1 : PFun ts 69 n (unitP ts lo)) (hf : FairF (unitP ts lo)) : PFun ts 45 n (conjP ts lo) := by
  intro B M S w h hS
  have LC := Lib.hid (list_any hT hn callFunc_unit h1 hf h hS ⟨#[38, 38]⟩ 4)
  obtain ⟨R, hR⟩ : ∃ R, R = conjP ts lo S := ⟨_, rfl⟩
  rw [← hR]
  rw [show listP ts (⟨#[38, 38]⟩ : ByteArray).data.toList 4 (unitP ts lo) S = R from hR.symm] at LC
  have hmf : ∀ (fn : Fn) (first cap : Array Value) (w : World), (Instr.makeFunc fn first cap).run Tryz.prog w = .ok (.func fn first cap) w := fun _ _ _ _ => rfl
  clear h1 hf h hR
  cases R with
  | error f =>
    go_enter Tryz.func45, Tryz.ntmps45
    go_wp2_with (go_at_call 44; refine LC.out.mono ?_; rintro e w2 ⟨rfl, hB2⟩)
    exact ⟨rfl, rfl, hB2⟩
  | ok p =>
    obtain ⟨i, S'⟩ := p
    go_enter Tryz.func45, Tryz.ntmps45
    go_wp2_with (go_at_call 44; refine LC.out.mono ?_; rintro e w2 ⟨M2, rfl, h2, k2⟩; have H2 := Lib.hid (And.intro h2 k2); clear h2 k2)
    go_ret
    exact ⟨M2, rfl, H2.out.1, H2.out.2⟩
set_option maxHeartbeats 8000000 in
set_option maxRecDepth 100000 in
theorem expr_any {ts : List Tk} (hT : TOK ts) {n : Nat} (hn : n ≤ 32) {lo : Lv} (h1 : PFun ts 45 n (conjP ts lo)) (hf : FairF (conjP ts lo)) : PFun ts 28 n (exprP ts lo) := by
  intro B M S w h hS
  have LC := Lib.hid (list_any hT hn callFunc_conj h1 hf h hS ⟨#[124, 124]⟩ 5)
  obtain ⟨R, hR⟩ : ∃ R, R = exprP ts lo S := ⟨_, rfl⟩
  rw [← hR]
  rw [show listP ts (⟨#[124, 124]⟩ : ByteArray).data.toList 5 (conjP ts lo) S = R from hR.symm] at LC
  have hmf : ∀ (fn : Fn) (first cap : Array Value) (w : World), (Instr.makeFunc fn first cap).run Tryz.prog w = .ok (.func fn first cap) w := fun _ _ _ _ => rfl
  clear h1 hf h hR
  cases R with
  | error f =>
    go_enter Tryz.func28, Tryz.ntmps28
    go_wp2_with (go_at_call 44; refine LC.out.mono ?_; rintro e w2 ⟨rfl, hB2⟩)
    exact ⟨rfl, rfl, hB2⟩
  | ok p =>
    obtain ⟨i, S'⟩ := p
    go_enter Tryz.func28, Tryz.ntmps28
    go_wp2_with (go_at_call 44; refine LC.out.mono ?_; rintro e w2 ⟨M2, rfl, h2, k2⟩; have H2 := Lib.hid (And.intro h2 k2); clear h2 k2)
    go_ret
    exact ⟨M2, rfl, H2.out.1, H2.out.2⟩

end Go.Proofs.YtfiljgkcipnghaaGreatDoor.X
set_option linter.unusedVariables false
set_option linter.unusedSimpArgs false
namespace Go.Proofs.YtfiljgkcipnghaaGreatDoor.X
open Go.RowKit
set_option maxHeartbeats 8000000 in
set_option maxRecDepth 100000 in
theorem unit_any {ts : List Tk} (hT : TOK ts) {n : Nat} (hn : n ≤ 32) {lo : Lv} (hlo : n < 32 → LvOK ts (n + 1) lo) (hlf : LvFair lo) (hat : PFun ts 98 n (atomP ts lo)) : PFun ts 69 n (unitP ts lo) := by
  intro B M S w h hS
  obtain ⟨R, hR⟩ : ∃ R, R = unitP ts lo S := ⟨_, rfl⟩
  rw [← hR]
  unfold unitP at hR
  obtain ⟨t, ht⟩ : ∃ t, t = pk ts S := ⟨_, rfl⟩
  have HTk := Lib.hid ht
  have HPl : Hid (placeT ts S.pos = t.at_) := Lib.hid (by rw [ht]; rfl)
  have hpl := hT.len
  have h0 := h.pos
  have hsm := h.small
  have hos := h.osmall
  have X0 := Lib.hid (Stp.start h)
  have hbw := h.bsize
  have tf := tokField
  have hnS : S.nest ≤ 32 := by omega
  clear h ht
  cases h1 : isT ts S 4 [33] with
  | true =>
    rw [if_pos h1] at hR
    have HR2 := Lib.hid hR
    clear hR
    go_enter Tryz.func69, Tryz.ntmps69
    go_wp2_with (first
    | (go_at_call 68; have PC := XU.out.putK hT S.pos 3 [] 0 [kid] #[.int .i64 (kid : Nat)] 1 w4.heap.size (by simp) rfl rfl (by simp) Q4 O4; rw [HPl.out] at PC; refine PC.mono ?_; rintro e wp ⟨rfl, Mp, xp⟩; have XP := Lib.hid xp; clear xp PC)
    | (go_at_call 69; refine ans (X3.out.fn HL.out.unit N3) (fun f wz (hr : lo.unit S3 = .error f) hB => by (have eR := HR3.out; rw [hr, bind_errE] at eR; subst eR; exact ⟨rfl, rfl, hB⟩)) (fun kid S4 M4 w4 (hr4 : lo.unit S3 = .ok (kid, S4)) x4 k4 => ?_); have X4 := Lib.hid x4; have e4 := HR3.out; rw [hr4, bind_okE] at e4; have HR4 := Lib.hid e4; have hF := hlf.unit _ _ _ hr4; have N4 : S4.nest = n + 1 := hF.nest.trans N3; have Q4 : (closeN S4).parts.length + 1 ≤ (closeN S4).pos := (by have q1 := hF.grow; obtain ⟨p1, p2, p3⟩ := P3; simp only [closeN]; omega); have O4 : (closeN S4).offs.length + 1 ≤ (closeN S4).pos := (by have q1 := hF.offs; have q2 := hF.grow; obtain ⟨p1, p2, p3⟩ := P3; simp only [closeN]; omega); have c2 := x4.c2; have cf := x4.cf; have XU := x4.unnest (by omega); rw [show ((S4.nest : Int) - 1) = (n : Int) by omega] at XU; have XU := Lib.hid XU; clear hr4 hF; clear x4 e4 k4)
    | (go_at_call 96; refine ansU (X2.out.open hT hnS ⟨#[33]⟩) (fun f wz (hr : openP ts [33] S = .error f) hB => by (have eR := HR2.out; rw [hr, then_errE] at eR; subst eR; exact ⟨rfl, rfl, hB⟩)) (fun S3 M3 w3 (hr3 : openP ts [33] S = .ok S3) x3 k3 => ?_); have X3 := Lib.hid x3; have e3 := HR2.out; rw [hr3, then_okE] at e3; have HR3 := Lib.hid e3; have hn33 : n + 1 ≤ 32 := (by have := (open_fair hr3).2; omega); have HL := Lib.hid (hlo (by omega)); have N3 : S3.nest = n + 1 := (by rw [(open_fair hr3).1]; simp only; omega); have P3 : S3.pos = S.pos + 1 ∧ S3.parts.length = S.parts.length ∧ S3.offs.length = S.offs.length := (by rw [(open_fair hr3).1]; exact ⟨rfl, rfl, rfl⟩); clear hr3; clear x3 e3 k3)
    | (go_at_call 67; refine (X1.out.is hT 4 ⟨#[33]⟩).mono ?_; rintro e w2 ⟨he, x2, b2⟩; rw [show isT ts _ 4 (⟨#[33]⟩ : ByteArray).data.toList = true from h1] at he; subst he; have X2 := Lib.hid x2; clear x2 b2)
    | (go_at_call 29; refine (X0.out.peek hT).mono ?_; rintro e w1 ⟨he, x1, b1⟩; rw [← HTk.out] at he; simp only [tokCells] at he; subst he; have X1 := Lib.hid x1; clear x1 b1))
    go_ret
    have eR := HR4.out
    subst eR
    exact PAns.done XP.out
  | false =>
    rw [if_neg (by rw [h1]; decide)] at hR
    cases h2 : isT ts S 4 [40] with
    | true =>
      rw [if_pos h2] at hR
      have HR3 := Lib.hid hR
      clear hR
      go_enter Tryz.func69, Tryz.ntmps69
      go_wp2_with (first
    | (go_at_call 97; refine ansU (X5.out.shut hT (by omega) (by omega)) (fun f wz (hr : shutP ts S5 = .error f) hB => by (have eR := HR5.out; rw [hr, then_errE] at eR; subst eR; exact ⟨rfl, rfl, hB⟩)) (fun S6 M6 w6 (hr6 : shutP ts S5 = .ok S6) x6 k6 => ?_); have X6 := Lib.hid x6; have e6 := HR5.out; rw [hr6, then_okE] at e6; have HR6 := Lib.hid e6; clear hr6; clear x6 e6 k6)
    | (go_at_call 28; refine ans (X4.out.fn HL.out.expr N4) (fun f wz (hr : lo.expr S4 = .error f) hB => by (have eR := HR4.out; rw [hr, bind_errE] at eR; subst eR; exact ⟨rfl, rfl, hB⟩)) (fun kid S5 M5 w5 (hr5 : lo.expr S4 = .ok (kid, S5)) x5 k5 => ?_); have X5 := Lib.hid x5; have e5 := HR4.out; rw [hr5, bind_okE] at e5; have HR5 := Lib.hid e5; have N5 : S5.nest = n + 1 := (hlf.expr _ _ _ hr5).nest.trans N4; clear hr5; clear x5 e5 k5)
    | (go_at_call 96; refine ansU (X3.out.open hT hnS ⟨#[40]⟩) (fun f wz (hr : openP ts [40] S = .error f) hB => by (have eR := HR3.out; rw [hr, then_errE] at eR; subst eR; exact ⟨rfl, rfl, hB⟩)) (fun S4 M4 w4 (hr4 : openP ts [40] S = .ok S4) x4 k4 => ?_); have X4 := Lib.hid x4; have e4 := HR3.out; rw [hr4, then_okE] at e4; have HR4 := Lib.hid e4; have hn33 : n + 1 ≤ 32 := (by have := (open_fair hr4).2; omega); have HL := Lib.hid (hlo (by omega)); have N4 : S4.nest = n + 1 := (by rw [(open_fair hr4).1]; simp only; omega); clear hr4; clear x4 e4 k4)
    | (go_at_call 67; refine (X2.out.is hT 4 ⟨#[40]⟩).mono ?_; rintro e w3 ⟨he, x3, b3⟩; rw [show isT ts _ 4 (⟨#[40]⟩ : ByteArray).data.toList = true from h2] at he; subst he; have X3 := Lib.hid x3; clear x3 b3)
    | (go_at_call 67; refine (X1.out.is hT 4 ⟨#[33]⟩).mono ?_; rintro e w2 ⟨he, x2, b2⟩; rw [show isT ts _ 4 (⟨#[33]⟩ : ByteArray).data.toList = false from h1] at he; subst he; have X2 := Lib.hid x2; clear x2 b2)
    | (go_at_call 29; refine (X0.out.peek hT).mono ?_; rintro e w1 ⟨he, x1, b1⟩; rw [← HTk.out] at he; simp only [tokCells] at he; subst he; have X1 := Lib.hid x1; clear x1 b1))
      go_ret
      have eR := HR6.out
      subst eR
      exact PAns.done X6.out
    | false =>
      rw [if_neg (by rw [h2]; decide)] at hR
      have HR3 := Lib.hid hR
      clear hR
      go_enter Tryz.func69, Tryz.ntmps69
      go_wp2_with (first
    | (go_at_call 98; refine ans (X3.out.fn hat hS) (fun f wz (hr : atomP ts lo S = .error f) hB => by (have eR := HR3.out; rw [hr] at eR; subst eR; exact ⟨rfl, rfl, hB⟩)) (fun kid S4 M4 w4 (hr4 : atomP ts lo S = .ok (kid, S4)) x4 k4 => ?_); have X4 := Lib.hid x4; have e4 := HR3.out; rw [hr4] at e4; have HR4 := Lib.hid e4; clear x4 e4 hr4 k4)
    | (go_at_call 67; refine (X2.out.is hT 4 ⟨#[40]⟩).mono ?_; rintro e w3 ⟨he, x3, b3⟩; rw [show isT ts _ 4 (⟨#[40]⟩ : ByteArray).data.toList = false from h2] at he; subst he; have X3 := Lib.hid x3; clear x3 b3)
    | (go_at_call 67; refine (X1.out.is hT 4 ⟨#[33]⟩).mono ?_; rintro e w2 ⟨he, x2, b2⟩; rw [show isT ts _ 4 (⟨#[33]⟩ : ByteArray).data.toList = false from h1] at he; subst he; have X2 := Lib.hid x2; clear x2 b2)
    | (go_at_call 29; refine (X0.out.peek hT).mono ?_; rintro e w1 ⟨he, x1, b1⟩; rw [← HTk.out] at he; simp only [tokCells] at he; subst he; have X1 := Lib.hid x1; clear x1 b1))
      go_ret
      have eR := HR4.out
      subst eR
      exact PAns.done X4.out

end Go.Proofs.YtfiljgkcipnghaaGreatDoor.X
set_option linter.unusedVariables false
set_option linter.unusedSimpArgs false
namespace Go.Proofs.YtfiljgkcipnghaaGreatDoor.X
open Go.RowKit
/-- A row of kids under way, beside the parser. -/
structure KR (M1 : PM) (w1 : World) (base : Nat) (v : Value) (kids : List Nat) : Prop where
  row : w1.ownsRow base 3 1 v kids.length (kids.map fun k => Value.int .i64 (k : Nat))
  apart : ∀ k, v.ownBlock = some k → ∀ b ∈ blocksOf M1, b ≠ some k
section
variable {ts : List Tk} {B base : Nat} {M M1 M2 : PM} {S1 : PS} {w w1 w2 : World} {v : Value} {kids : List Nat}
theorem KR.below (h : KR M1 w1 base v kids) (hb : Below w1.heap.size w1 w2) : KR M1 w2 base v kids := ⟨row_below h.row hb, h.apart⟩
theorem KR.step (h : KR M1 w1 base v kids) (k : PKept B M1 w1 w2 M2) : KR M2 w2 base v kids :=
  ⟨own_block h.row (fun j e => k.keeps j (h.row.lt j e).2 (fun e2 => h.apart j e (some M1.P) (by simp [blocksOf]) (by rw [e2])) (fun e2 => h.apart j e _ (by simp [blocksOf]) e2.symm) (fun e2 => h.apart j e _ (by simp [blocksOf]) e2.symm)),
    fun j e => k.apart (h.row.lt j e).2 (h.apart j e)⟩
theorem Stp.nextK (X : Stp ts B M w M1 S1 w1) (hp : S1.pos + 1 < ts.length) : PKept B M1 w1 (w1.setCell ⟨M.P, 1, none⟩ (.int .i64 ((S1.pos : Int) + 1))) M1 := by
  have k := (X.at_.turn (S1.pos + 1) S1.nest (set_pos X.at_.cells (.int .i64 ((S1.pos + 1 : Nat) : Int))) (set_grown _ _ _ _) hp (by omega)).2
  rw [X.P] at k; exact k
/-- A kid has been written behind the row. -/
theorem KR.grow (X : Stp ts B M w M1 S1 w1) (h : KR M1 w1 w.heap.size v kids) (i : Nat) {v6 : Value} {w6 : World} (hg : (w1.alloc (.cells #[.int .i64 (i : Nat)] 3)).grownBy w6 v.ownBlock)
    (hown : w6.ownsRow w.heap.size 3 1 v6 (kids.length + 1) ((kids.map fun k => Value.int .i64 (k : Nat)) ++ [Value.int .i64 (i : Nat)])) (hat : v6.ownBlock = v.ownBlock ∨ v6.ownBlock = some (w1.alloc (.cells #[.int .i64 (i : Nat)] 3)).heap.size) :
    Stp ts B M w M1 S1 w6 ∧ KR M1 w6 w.heap.size v6 (kids ++ [i]) := by
  have X5 := X.alloc (.cells #[.int .i64 (i : Nat)] 3)
  have hrow : ∀ k, v.ownBlock = some k → w.heap.size ≤ k := fun k e => (h.row.lt k e).1
  refine ⟨⟨X5.at_.grown hg (fun k e => ⟨Nat.le_trans X.bw (hrow k e), h.apart k e⟩), X5.kept.grown hg X.bw hrow, X.bw⟩, ?_, ?_⟩
  · rw [List.length_append, List.map_append]; exact hown
  · intro k e
    rcases hat with e2 | e2
    · exact h.apart k (by rw [← e2]; exact e)
    · rw [e2] at e; injection e with e; subst e
      exact X5.at_.fresh (Nat.le_refl _)
end
/-- Where the elements of a set stand. -/
structure SI (ts : List Tk) (B : Nat) (M : PM) (w : World) (n : Nat) (v : Value) (wr : World) (M1 : PM) (S1 : PS) (kids : List Nat) (m : Nat) : Prop where
  stp : Stp ts B M w M1 S1 wr
  kr : KR M1 wr w.heap.size v kids
  nil : kids = [] → v = .slice none 0 0
  nest : S1.nest = n
  fuel : ts.length - S1.pos < m
  bound : kids.length ≤ 64
  small : S1.parts.length + 1 ≤ S1.pos
  osmall : S1.offs.length + 1 ≤ S1.pos
theorem SI.step {ts : List Tk} {B : Nat} {M : PM} {w : World} {n : Nat} {v v6 : Value} {w1 w6 : World} {M1 : PM} {S0 S1 : PS} {kids : List Nat} {m i a : Nat} {p : PD} (X : Stp ts B M w M1 (putS a p (on S1)) w6) (h : KR M1 w6 w.heap.size v6 (kids ++ [i]))
    (hn : S1.nest = n) (hp : S0.pos ≤ S1.pos) (hq : S1.parts.length + 1 ≤ S1.pos) (ho : S1.offs.length + 1 ≤ S1.pos) (hl : S1.pos < ts.length) (hf : ts.length - S0.pos < m + 1) (hb : kids.length < 64) : SI ts B M w n v6 w6 M1 (putS a p (on S1)) (kids ++ [i]) m :=
  ⟨X, h, fun e => absurd e (by simp), hn, by simp only [putS, Go.Proofs.YtfiljgkcipnghaaGreatDoor.X.on]; omega, by simp; omega, by simp [putS, Go.Proofs.YtfiljgkcipnghaaGreatDoor.X.on]; omega, by simp [putS, Go.Proofs.YtfiljgkcipnghaaGreatDoor.X.on]; omega⟩
set_option maxHeartbeats 8000000 in
set_option maxRecDepth 100000 in
theorem set_any {ts : List Tk} (hT : TOK ts) {n : Nat} (hn : n ≤ 32) : PFun ts 126 n (setP ts) := by
  intro B M S w h hS
  obtain ⟨R, hR⟩ : ∃ R, R = setP ts S := ⟨_, rfl⟩
  rw [← hR]
  unfold setP at hR
  obtain ⟨t, ht⟩ : ∃ t, t = pk ts S := ⟨_, rfl⟩
  have HTk := Lib.hid ht
  have HPl : Hid (placeT ts S.pos = t.at_) := Lib.hid (by rw [ht]; rfl)
  have HR1 := Lib.hid hR
  have hpl := hT.len
  have h0 := h.pos
  have hsm := h.small
  have hos := h.osmall
  have X0 := Lib.hid (Stp.start h)
  have hbw := h.bsize
  have tf := tokField
  clear h hR ht
  go_enter Tryz.func126, Tryz.ntmps126
  go_wp2_with (first
    | (go_at_call 113; refine ansU (X1.out.mark hT ⟨#[123]⟩) (fun f wz (hr : markP ts [123] S = .error f) hB => by (have eR := HR1.out; rw [hr, then_errE] at eR; subst eR; exact ⟨rfl, rfl, hB⟩)) (fun S2 M2 w2 (hr2 : markP ts [123] S = .ok S2) x2 k2 => ?_); have X2 := Lib.hid x2; have e2 := HR1.out; rw [hr2, then_okE] at e2; have HR2 := Lib.hid e2; obtain rfl : S2 = on S := mark_fair hr2; clear x2 e2 k2)
    | (go_at_call 29; refine (X0.out.peek hT).mono ?_; rintro e w1 ⟨he, x1, b1⟩; rw [← HTk.out] at he; simp only [tokCells] at he; subst he; have X1 := Lib.hid x1; clear x1 b1))
  have HI0 : Hid (SI ts B M w n (.slice none 0 0) w2 M2 (on S) [] 5000) := Lib.hid ⟨X2.out, ⟨⟨rfl, .inl ⟨rfl, rfl⟩⟩, fun k e => by cases e⟩, fun _ => rfl, hS, by omega, by simp, by simp only [on]; omega, by simp only [on]; omega⟩
  clear hr2
  go_loopw [4] (fun v wr => ∃ M' S' kids m, Hid (SI ts B M w n v wr M' S' kids m) ∧ Hid (R = bindS (setLoop ts m kids S') fun kids S2 => putP S.pos ⟨13, [], 0, kids⟩ (on S2))) (fun v _ => 65 - sliceLen v)
  case atStart => exact ⟨M2, on S, [], 5000, HI0, HR2⟩
  case round =>
    obtain ⟨M', S', kids, m, HI, HS⟩ := hrel
    obtain ⟨m', rfl⟩ : ∃ m', m = m' + 1 := ⟨m - 1, by have := HI.out.fuel; omega⟩
    have hb64 := HI.out.bound
    have hpos := HI.out.stp.at_.pos
    have hne : S'.nest = n := HI.out.nest
    have hs' := HI.out.small
    have ho' := HI.out.osmall
    have hfu := HI.out.fuel
    by_cases hk0 : kids = []
    · subst hk0
      obtain rfl := HI.out.nil rfl
      cases hi : isT ts S' 4 [125] with
      | true =>
        have e := HS.out
        simp only [setLoop, hi, if_true, bind_okE] at e
        have HE := Lib.hid e
        have hp2 := pos_next hT hpos (by rw [isT_kind hi]; decide)
        clear e
        go_wp2_with (first
          | (go_at_call 68; have PC := Y2n.out.putV hT S.pos ⟨13, [], 0, []⟩ (.slice none 0 0) (own_weak KR3.out.row hbw) (fun g e => (KR3.out.row.lt g e).1) KR3.out.apart (by simp only [on]; omega) (by simp only [on]; omega); rw [HPl.out] at PC; refine PC.mono ?_; rintro e wp ⟨rfl, Mp, xp, _⟩; have XP := Lib.hid xp; clear xp PC)
          | (go_at_call 67; refine (HI.out.stp.is hT 4 ⟨#[125]⟩).mono ?_; rintro e w2 ⟨he, x2, b2⟩; rw [show isT ts _ 4 (⟨#[125]⟩ : ByteArray).data.toList = true from hi] at he; subst he; have Y2 := Lib.hid x2; have c1 := x2.c1; have cf := x2.cf; have Y2n := Lib.hid (x2.next hp2); have KR3 := Lib.hid (HI.out.kr.below b2 |>.step (x2.nextK hp2));  have KR2 := Lib.hid (HI.out.kr.below b2); clear x2 b2))
        go_ret
        have eR := HE.out
        subst eR
        exact PAns.done XP.out
      | false =>
        have e := HS.out
        simp only [setLoop, hi, Bool.false_eq_true, if_false] at e
        rw [if_neg (by simp), then_okE] at e
        have hp1 := hpos
        obtain ⟨u, hu⟩ : ∃ u, u = pk ts S' := ⟨_, rfl⟩
        have HU := Lib.hid hu
        have HPu : Hid (placeT ts S'.pos = u.at_) := Lib.hid (by rw [hu]; rfl)
        rw [← hu] at e
        by_cases k1 : u.kind = 1
        · have hp2 : S'.pos + 1 < ts.length := pos_next hT hp1 (by rw [← hu, k1]; decide)
          rw [if_neg (by simp [k1])] at e
          have q1 : (u.kind != 1) = false := by rw [k1]; rfl
          have q3 : (u.kind == 1) = true := by rw [k1]; rfl
          rw [if_neg (by simp)] at e
          rw [if_pos k1] at e
          have HE := Lib.hid e
          clear e hu k1
          go_wp2_with (first
            | (at_builtin; go_loud (refine app_int w.heap.size rfl (.tmp 48) (.tmp 56) rfl _ _ _ (.int .i64 (S'.parts.length : Nat)) _ rfl rfl rfl (by simp [Act.eval]) KR6.out.row Y6.out.kept.size (by omega) ?_; intro v7 w7 hown hg7 hat; obtain ⟨g1, g2⟩ := KR.grow Y6.out KR6.out S'.parts.length hg7 hown hat; have SS := Lib.hid (SI.step (S0 := S') (v := v7) (w1 := w7) (m := m') g1 g2 hne (by first | omega | (simp only [on]; omega)) (by first | omega | (simp only [on]; omega)) (by first | omega | (simp only [on]; omega)) (by first | omega | (simp only [on]; omega)) hfu (by first | omega | (simp only [List.length_nil]; omega))); obtain ⟨g7, cap7, rfl⟩ := own_some hown; clear hown hg7 hat g1 g2))
            | (go_at_call 68; have PC := Y5.out.put0 hT S'.pos 11 u.text 0 (by simp only [on]; omega) (by simp only [on]; omega); rw [HPu.out] at PC; refine PC.mono ?_; rintro e w6 ⟨rfl, M6, x6, k6⟩; have Y6 := Lib.hid x6; have KR6 := Lib.hid (KR5.out.step k6); clear x6 k6 PC)
            | (go_at_call 29; refine (Y2.out.peek hT).mono ?_; rintro e w4 ⟨he, x4, b4⟩; rw [← HU.out] at he; simp only [tokCells] at he; subst he; have c1 := x4.c1; have cf := x4.cf; have Y5 := Lib.hid ((x4.next hp2).alloc (.cells (tokCells u) 73)); have KR5 := Lib.hid ((KR2.out.below b4).step (x4.nextK hp2) |>.below ((Below.refl _ _).alloc (Nat.le_refl _) (.cells (tokCells u) 73))); have hz4 := x4.lt; have hne3 : ¬ M.P = w4.heap.size := (by have := x4.lt; omega); have hne4 : ¬ w4.heap.size = M.P := (by have := x4.lt; omega); clear x4 b4)
            | (go_at_call 67; refine (HI.out.stp.is hT 4 ⟨#[125]⟩).mono ?_; rintro e w2 ⟨he, x2, b2⟩; rw [show isT ts _ 4 (⟨#[125]⟩ : ByteArray).data.toList = false from hi] at he; subst he; have Y2 := Lib.hid x2;  have KR2 := Lib.hid (HI.out.kr.below b2); clear x2 b2))
          go_roundw
          case rel => exact ⟨M6, putS S'.pos ⟨11, u.text, 0, []⟩ (on S'), [] ++ [S'.parts.length], m', SS, HE⟩
          case measure => simp [sliceLen]
        · by_cases k2 : u.kind = 2
          · have hp2 : S'.pos + 1 < ts.length := pos_next hT hp1 (by rw [← hu, k2]; decide)
            rw [if_neg (by simp [k2])] at e
            have q1 : (u.kind != 1) = true := by rw [k2]; rfl
            have q2 : (u.kind != 2) = false := by rw [k2]; rfl
            have q3 : (u.kind == 1) = false := by rw [k2]; rfl
            rw [if_neg (by simp)] at e
            rw [if_neg (by rw [k2]; decide)] at e
            have HE := Lib.hid e
            clear e hu k1 k2
            go_wp2_with (first
              | (at_builtin; go_loud (refine app_int w.heap.size rfl (.tmp 58) (.tmp 66) rfl _ _ _ (.int .i64 (S'.parts.length : Nat)) _ rfl rfl rfl (by simp [Act.eval]) KR6.out.row Y6.out.kept.size (by omega) ?_; intro v7 w7 hown hg7 hat; obtain ⟨g1, g2⟩ := KR.grow Y6.out KR6.out S'.parts.length hg7 hown hat; have SS := Lib.hid (SI.step (S0 := S') (v := v7) (w1 := w7) (m := m') g1 g2 hne (by first | omega | (simp only [on]; omega)) (by first | omega | (simp only [on]; omega)) (by first | omega | (simp only [on]; omega)) (by first | omega | (simp only [on]; omega)) hfu (by first | omega | (simp only [List.length_nil]; omega))); obtain ⟨g7, cap7, rfl⟩ := own_some hown; clear hown hg7 hat g1 g2))
              | (go_at_call 68; have PC := Y5.out.put0 hT S'.pos 12 [] u.num (by simp only [on]; omega) (by simp only [on]; omega); rw [HPu.out] at PC; refine PC.mono ?_; rintro e w6 ⟨rfl, M6, x6, k6⟩; have Y6 := Lib.hid x6; have KR6 := Lib.hid (KR5.out.step k6); clear x6 k6 PC)
              | (go_at_call 29; refine (Y2.out.peek hT).mono ?_; rintro e w4 ⟨he, x4, b4⟩; rw [← HU.out] at he; simp only [tokCells] at he; subst he; have c1 := x4.c1; have cf := x4.cf; have Y5 := Lib.hid ((x4.next hp2).alloc (.cells (tokCells u) 73)); have KR5 := Lib.hid ((KR2.out.below b4).step (x4.nextK hp2) |>.below ((Below.refl _ _).alloc (Nat.le_refl _) (.cells (tokCells u) 73))); have hz4 := x4.lt; have hne3 : ¬ M.P = w4.heap.size := (by have := x4.lt; omega); have hne4 : ¬ w4.heap.size = M.P := (by have := x4.lt; omega); clear x4 b4)
              | (go_at_call 67; refine (HI.out.stp.is hT 4 ⟨#[125]⟩).mono ?_; rintro e w2 ⟨he, x2, b2⟩; rw [show isT ts _ 4 (⟨#[125]⟩ : ByteArray).data.toList = false from hi] at he; subst he; have Y2 := Lib.hid x2;  have KR2 := Lib.hid (HI.out.kr.below b2); clear x2 b2))
            go_roundw
            case rel => exact ⟨M6, putS S'.pos ⟨12, [], u.num, []⟩ (on S'), [] ++ [S'.parts.length], m', SS, HE⟩
            case measure => simp [sliceLen]
          · rw [if_pos ⟨k1, k2⟩] at e
            have q1 : (u.kind != 1) = true := by rw [bne_iff_ne]; exact k1
            have q2 : (u.kind != 2) = true := by rw [bne_iff_ne]; exact k2
            have HE := Lib.hid e
            clear e hu k1 k2
            go_wp2_with (first
              | (go_at_call 30; refine (Y5.out.wrong hT).mono ?_; rintro e w6 ⟨rfl, hB6⟩)
              | (go_at_call 29; refine (Y2.out.peek hT).mono ?_; rintro e w4 ⟨he, x4, b4⟩; rw [← HU.out] at he; simp only [tokCells] at he; subst he; have Y5 := Lib.hid (x4.alloc (.cells (tokCells u) 73)); clear x4 b4)
              | (go_at_call 67; refine (HI.out.stp.is hT 4 ⟨#[125]⟩).mono ?_; rintro e w2 ⟨he, x2, b2⟩; rw [show isT ts _ 4 (⟨#[125]⟩ : ByteArray).data.toList = false from hi] at he; subst he; have Y2 := Lib.hid x2;  have KR2 := Lib.hid (HI.out.kr.below b2); clear x2 b2))
            have eR := HE.out
            subst eR
            exact ⟨rfl, rfl, hB6⟩
    · obtain ⟨kl, hkl⟩ : ∃ kl, kids.length = kl + 1 := ⟨kids.length - 1, by have := List.length_pos_iff.2 hk0; omega⟩
      have hrow := HI.out.kr.row
      rw [hkl] at hrow
      obtain ⟨g, cap, rfl⟩ := own_some hrow
      clear hrow
      have hI0 : (0 : Int) < (kl : Int) + 1 := by omega
      cases hi : isT ts S' 4 [125] with
      | true =>
        have e := HS.out
        simp only [setLoop, hi, if_true, bind_okE] at e
        have HE := Lib.hid e
        have hp2 := pos_next hT hpos (by rw [isT_kind hi]; decide)
        clear e
        go_wp2_with (first
          | (go_at_call 68; have PC := Y2n.out.putV hT S.pos ⟨13, [], 0, kids⟩ (.slice (some ⟨g, 0, none⟩) (kl + 1) cap) (own_weak KR3.out.row hbw) (fun g e => (KR3.out.row.lt g e).1) KR3.out.apart (by simp only [on]; omega) (by simp only [on]; omega); rw [HPl.out] at PC; refine PC.mono ?_; rintro e wp ⟨rfl, Mp, xp, _⟩; have XP := Lib.hid xp; clear xp PC)
          | (go_at_call 67; refine (HI.out.stp.is hT 4 ⟨#[125]⟩).mono ?_; rintro e w2 ⟨he, x2, b2⟩; rw [show isT ts _ 4 (⟨#[125]⟩ : ByteArray).data.toList = true from hi] at he; subst he; have Y2 := Lib.hid x2; have c1 := x2.c1; have cf := x2.cf; have Y2n := Lib.hid (x2.next hp2); have KR3 := Lib.hid (HI.out.kr.below b2 |>.step (x2.nextK hp2));  have KR2 := Lib.hid (HI.out.kr.below b2); clear x2 b2))
        go_ret
        have eR := HE.out
        subst eR
        exact PAns.done XP.out
      | false =>
        have e := HS.out
        simp only [setLoop, hi, Bool.false_eq_true, if_false] at e
        rw [if_pos (by omega)] at e
        cases hmk : markP ts [44] S' with
        | error f =>
          have HE : Hid (R = bindS (thenS (markP ts [44] S') _) _) := Lib.hid e
          clear e
          go_wp2_with (first
            | (go_at_call 113; refine ansU (Y2.out.mark hT ⟨#[44]⟩) (fun f wz (hr : markP ts [44] S' = .error f) hB => by (have eR := HE.out; rw [hr, then_errE] at eR; subst eR; exact ⟨rfl, rfl, hB⟩)) (fun S3 M3 w3 (hr3 : markP ts [44] S' = .ok S3) x3 k3 => (by (rw [hmk] at hr3; cases hr3))))
            | (go_at_call 67; refine (HI.out.stp.is hT 4 ⟨#[125]⟩).mono ?_; rintro e w2 ⟨he, x2, b2⟩; rw [show isT ts _ 4 (⟨#[125]⟩ : ByteArray).data.toList = false from hi] at he; subst he; have Y2 := Lib.hid x2;  have KR2 := Lib.hid (HI.out.kr.below b2); clear x2 b2))
        | ok S9 =>
          obtain rfl : S9 = on S' := mark_fair hmk
          rw [hmk, then_okE] at e
          have hp1 := pos_next hT hpos (by rw [isT_kind (show isT ts S' 4 [44] = true by unfold markP at hmk; split at hmk <;> first | assumption | cases hmk)]; decide)
          obtain ⟨u, hu⟩ : ∃ u, u = pk ts (on S') := ⟨_, rfl⟩
          have HU := Lib.hid hu
          have HPu : Hid (placeT ts (on S').pos = u.at_) := Lib.hid (by rw [hu]; rfl)
          rw [← hu] at e
          by_cases k1 : u.kind = 1
          · have hp2 : (on S').pos + 1 < ts.length := pos_next hT hp1 (by rw [← hu, k1]; decide)
            rw [if_neg (by simp [k1])] at e
            have q1 : (u.kind != 1) = false := by rw [k1]; rfl
            have q3 : (u.kind == 1) = true := by rw [k1]; rfl
            by_cases k64 : kl = 63
            · rw [if_pos (by omega)] at e
              have q4 : (((kl : Int) + 1) == 64) = true := by rw [beq_iff_eq]; omega
              have HE := Lib.hid e
              clear e hu k1
              go_wp2_with (first
                | (go_at_call 29; refine (Y3.out.peek hT).mono ?_; rintro e w4 ⟨he, x4, b4⟩; rw [← HU.out] at he; simp only [tokCells] at he; subst he; have Y5 := Lib.hid (x4.alloc (.cells (tokCells u) 73)); clear x4 b4)
                | (go_at_call 113; refine ansU (Y2.out.mark hT ⟨#[44]⟩) (fun f wz (hr : markP ts [44] S' = .error f) hB => by (rw [hmk] at hr; cases hr)) (fun S3 M3 w3 (hr3 : markP ts [44] S' = .ok S3) x3 k3 => ?_); obtain rfl : S3 = on S' := mark_fair hr3; have Y3 := Lib.hid x3; have KR3 := Lib.hid (KR2.out.step k3); clear x3 k3 hr3)
                | (go_at_call 67; refine (HI.out.stp.is hT 4 ⟨#[125]⟩).mono ?_; rintro e w2 ⟨he, x2, b2⟩; rw [show isT ts _ 4 (⟨#[125]⟩ : ByteArray).data.toList = false from hi] at he; subst he; have Y2 := Lib.hid x2;  have KR2 := Lib.hid (HI.out.kr.below b2); clear x2 b2))
              have eR := HE.out
              subst eR
              refine ⟨rfl, ?_, Y5.out.kept.below⟩
              unfold failV
              rw [HPu.out]
            · rw [if_neg (by omega)] at e
              have q4 : (((kl : Int) + 1) == 64) = false := by rw [beq_eq_false_iff_ne]; omega
              rw [if_pos k1] at e
              have HE := Lib.hid e
              clear e hu k1
              go_wp2_with (first
                | (at_builtin; go_loud (refine app_int w.heap.size rfl (.tmp 48) (.tmp 56) rfl _ _ _ (.int .i64 ((on S').parts.length : Nat)) _ rfl rfl rfl (by simp [Act.eval]) KR6.out.row Y6.out.kept.size (by omega) ?_; intro v7 w7 hown hg7 hat; obtain ⟨g1, g2⟩ := KR.grow Y6.out KR6.out (on S').parts.length hg7 hown hat; have SS := Lib.hid (SI.step (S0 := S') (v := v7) (w1 := w7) (m := m') g1 g2 hne (by first | omega | (simp only [on]; omega)) (by first | omega | (simp only [on]; omega)) (by first | omega | (simp only [on]; omega)) (by first | omega | (simp only [on]; omega)) hfu (by first | omega | (simp only [List.length_nil]; omega))); rw [hkl] at hown; obtain ⟨g7, cap7, rfl⟩ := own_some hown; clear hown hg7 hat g1 g2))
                | (go_at_call 68; have PC := Y5.out.put0 hT (on S').pos 11 u.text 0 (by simp only [on]; omega) (by simp only [on]; omega); rw [HPu.out] at PC; refine PC.mono ?_; rintro e w6 ⟨rfl, M6, x6, k6⟩; have Y6 := Lib.hid x6; have KR6 := Lib.hid (KR5.out.step k6); clear x6 k6 PC)
                | (go_at_call 29; refine (Y3.out.peek hT).mono ?_; rintro e w4 ⟨he, x4, b4⟩; rw [← HU.out] at he; simp only [tokCells] at he; subst he; have c1 := x4.c1; have cf := x4.cf; have Y5 := Lib.hid ((x4.next hp2).alloc (.cells (tokCells u) 73)); have KR5 := Lib.hid ((KR3.out.below b4).step (x4.nextK hp2) |>.below ((Below.refl _ _).alloc (Nat.le_refl _) (.cells (tokCells u) 73))); have hz4 := x4.lt; have hne3 : ¬ M.P = w4.heap.size := (by have := x4.lt; omega); have hne4 : ¬ w4.heap.size = M.P := (by have := x4.lt; omega); clear x4 b4)
                | (go_at_call 113; refine ansU (Y2.out.mark hT ⟨#[44]⟩) (fun f wz (hr : markP ts [44] S' = .error f) hB => by (rw [hmk] at hr; cases hr)) (fun S3 M3 w3 (hr3 : markP ts [44] S' = .ok S3) x3 k3 => ?_); obtain rfl : S3 = on S' := mark_fair hr3; have Y3 := Lib.hid x3; have KR3 := Lib.hid (KR2.out.step k3); clear x3 k3 hr3)
                | (go_at_call 67; refine (HI.out.stp.is hT 4 ⟨#[125]⟩).mono ?_; rintro e w2 ⟨he, x2, b2⟩; rw [show isT ts _ 4 (⟨#[125]⟩ : ByteArray).data.toList = false from hi] at he; subst he; have Y2 := Lib.hid x2;  have KR2 := Lib.hid (HI.out.kr.below b2); clear x2 b2))
              go_roundw
              case rel => exact ⟨M6, putS (on S').pos ⟨11, u.text, 0, []⟩ (on (on S')), kids ++ [(on S').parts.length], m', SS, HE⟩
              case measure => simp [sliceLen]; omega
          · by_cases k2 : u.kind = 2
            · have hp2 : (on S').pos + 1 < ts.length := pos_next hT hp1 (by rw [← hu, k2]; decide)
              rw [if_neg (by simp [k2])] at e
              have q1 : (u.kind != 1) = true := by rw [k2]; rfl
              have q2 : (u.kind != 2) = false := by rw [k2]; rfl
              have q3 : (u.kind == 1) = false := by rw [k2]; rfl
              by_cases k64 : kl = 63
              · rw [if_pos (by omega)] at e
                have q4 : (((kl : Int) + 1) == 64) = true := by rw [beq_iff_eq]; omega
                have HE := Lib.hid e
                clear e hu k1 k2
                go_wp2_with (first
                  | (go_at_call 29; refine (Y3.out.peek hT).mono ?_; rintro e w4 ⟨he, x4, b4⟩; rw [← HU.out] at he; simp only [tokCells] at he; subst he; have Y5 := Lib.hid (x4.alloc (.cells (tokCells u) 73)); clear x4 b4)
                  | (go_at_call 113; refine ansU (Y2.out.mark hT ⟨#[44]⟩) (fun f wz (hr : markP ts [44] S' = .error f) hB => by (rw [hmk] at hr; cases hr)) (fun S3 M3 w3 (hr3 : markP ts [44] S' = .ok S3) x3 k3 => ?_); obtain rfl : S3 = on S' := mark_fair hr3; have Y3 := Lib.hid x3; have KR3 := Lib.hid (KR2.out.step k3); clear x3 k3 hr3)
                  | (go_at_call 67; refine (HI.out.stp.is hT 4 ⟨#[125]⟩).mono ?_; rintro e w2 ⟨he, x2, b2⟩; rw [show isT ts _ 4 (⟨#[125]⟩ : ByteArray).data.toList = false from hi] at he; subst he; have Y2 := Lib.hid x2;  have KR2 := Lib.hid (HI.out.kr.below b2); clear x2 b2))
                have eR := HE.out
                subst eR
                refine ⟨rfl, ?_, Y5.out.kept.below⟩
                unfold failV
                rw [HPu.out]
              · rw [if_neg (by omega)] at e
                have q4 : (((kl : Int) + 1) == 64) = false := by rw [beq_eq_false_iff_ne]; omega
                rw [if_neg (by rw [k2]; decide)] at e
                have HE := Lib.hid e
                clear e hu k1 k2
                go_wp2_with (first
                  | (at_builtin; go_loud (refine app_int w.heap.size rfl (.tmp 58) (.tmp 66) rfl _ _ _ (.int .i64 ((on S').parts.length : Nat)) _ rfl rfl rfl (by simp [Act.eval]) KR6.out.row Y6.out.kept.size (by omega) ?_; intro v7 w7 hown hg7 hat; obtain ⟨g1, g2⟩ := KR.grow Y6.out KR6.out (on S').parts.length hg7 hown hat; have SS := Lib.hid (SI.step (S0 := S') (v := v7) (w1 := w7) (m := m') g1 g2 hne (by first | omega | (simp only [on]; omega)) (by first | omega | (simp only [on]; omega)) (by first | omega | (simp only [on]; omega)) (by first | omega | (simp only [on]; omega)) hfu (by first | omega | (simp only [List.length_nil]; omega))); rw [hkl] at hown; obtain ⟨g7, cap7, rfl⟩ := own_some hown; clear hown hg7 hat g1 g2))
                  | (go_at_call 68; have PC := Y5.out.put0 hT (on S').pos 12 [] u.num (by simp only [on]; omega) (by simp only [on]; omega); rw [HPu.out] at PC; refine PC.mono ?_; rintro e w6 ⟨rfl, M6, x6, k6⟩; have Y6 := Lib.hid x6; have KR6 := Lib.hid (KR5.out.step k6); clear x6 k6 PC)
                  | (go_at_call 29; refine (Y3.out.peek hT).mono ?_; rintro e w4 ⟨he, x4, b4⟩; rw [← HU.out] at he; simp only [tokCells] at he; subst he; have c1 := x4.c1; have cf := x4.cf; have Y5 := Lib.hid ((x4.next hp2).alloc (.cells (tokCells u) 73)); have KR5 := Lib.hid ((KR3.out.below b4).step (x4.nextK hp2) |>.below ((Below.refl _ _).alloc (Nat.le_refl _) (.cells (tokCells u) 73))); have hz4 := x4.lt; have hne3 : ¬ M.P = w4.heap.size := (by have := x4.lt; omega); have hne4 : ¬ w4.heap.size = M.P := (by have := x4.lt; omega); clear x4 b4)
                  | (go_at_call 113; refine ansU (Y2.out.mark hT ⟨#[44]⟩) (fun f wz (hr : markP ts [44] S' = .error f) hB => by (rw [hmk] at hr; cases hr)) (fun S3 M3 w3 (hr3 : markP ts [44] S' = .ok S3) x3 k3 => ?_); obtain rfl : S3 = on S' := mark_fair hr3; have Y3 := Lib.hid x3; have KR3 := Lib.hid (KR2.out.step k3); clear x3 k3 hr3)
                  | (go_at_call 67; refine (HI.out.stp.is hT 4 ⟨#[125]⟩).mono ?_; rintro e w2 ⟨he, x2, b2⟩; rw [show isT ts _ 4 (⟨#[125]⟩ : ByteArray).data.toList = false from hi] at he; subst he; have Y2 := Lib.hid x2;  have KR2 := Lib.hid (HI.out.kr.below b2); clear x2 b2))
                go_roundw
                case rel => exact ⟨M6, putS (on S').pos ⟨12, [], u.num, []⟩ (on (on S')), kids ++ [(on S').parts.length], m', SS, HE⟩
                case measure => simp [sliceLen]; omega
            · rw [if_pos ⟨k1, k2⟩] at e
              have q1 : (u.kind != 1) = true := by rw [bne_iff_ne]; exact k1
              have q2 : (u.kind != 2) = true := by rw [bne_iff_ne]; exact k2
              have HE := Lib.hid e
              clear e hu k1 k2
              go_wp2_with (first
                | (go_at_call 30; refine (Y5.out.wrong hT).mono ?_; rintro e w6 ⟨rfl, hB6⟩)
                | (go_at_call 29; refine (Y3.out.peek hT).mono ?_; rintro e w4 ⟨he, x4, b4⟩; rw [← HU.out] at he; simp only [tokCells] at he; subst he; have Y5 := Lib.hid (x4.alloc (.cells (tokCells u) 73)); clear x4 b4)
                | (go_at_call 113; refine ansU (Y2.out.mark hT ⟨#[44]⟩) (fun f wz (hr : markP ts [44] S' = .error f) hB => by (rw [hmk] at hr; cases hr)) (fun S3 M3 w3 (hr3 : markP ts [44] S' = .ok S3) x3 k3 => ?_); obtain rfl : S3 = on S' := mark_fair hr3; have Y3 := Lib.hid x3; have KR3 := Lib.hid (KR2.out.step k3); clear x3 k3 hr3)
                | (go_at_call 67; refine (HI.out.stp.is hT 4 ⟨#[125]⟩).mono ?_; rintro e w2 ⟨he, x2, b2⟩; rw [show isT ts _ 4 (⟨#[125]⟩ : ByteArray).data.toList = false from hi] at he; subst he; have Y2 := Lib.hid x2;  have KR2 := Lib.hid (HI.out.kr.below b2); clear x2 b2))
              have eR := HE.out
              subst eR
              exact ⟨rfl, rfl, hB6⟩

end Go.Proofs.YtfiljgkcipnghaaGreatDoor.X
set_option linter.unusedVariables false
set_option linter.unusedSimpArgs false
namespace Go.Proofs.YtfiljgkcipnghaaGreatDoor.X
open Go.RowKit
set_option maxHeartbeats 8000000 in
set_option maxRecDepth 100000 in
theorem side_any (s : Bs) (w : World) : Calls Tryz.prog 139 #[.string ⟨s.toArray⟩] w fun e w' => e = .returned (.int .i64 (sideP s)) ∧ w' = w := by
  unfold sideP
  by_cases h0 : s = [110, 111, 100, 101]
  · have q0 : (s == [110, 111, 100, 101]) = true := by simpa using h0
    simp only [if_pos h0]
    clear h0
    go_enter Tryz.func139, Tryz.ntmps139
    go_wp2
    go_ret
    exact ⟨rfl, rfl⟩
  · have q0 : (s == [110, 111, 100, 101]) = false := by simpa using h0
    simp only [if_neg h0]
    by_cases h1 : s = [112, 111, 100]
    · have q1 : (s == [112, 111, 100]) = true := by simpa using h1
      simp only [if_pos h1]
      clear h0 h1
      go_enter Tryz.func139, Tryz.ntmps139
      go_wp2
      go_ret
      exact ⟨rfl, rfl⟩
    · have q1 : (s == [112, 111, 100]) = false := by simpa using h1
      simp only [if_neg h1]
      by_cases h2 : s = [105, 116]
      · have q2 : (s == [105, 116]) = true := by simpa using h2
        simp only [if_pos h2]
        clear h0 h1 h2
        go_enter Tryz.func139, Tryz.ntmps139
        go_wp2
        go_ret
        exact ⟨rfl, rfl⟩
      · have q2 : (s == [105, 116]) = false := by simpa using h2
        simp only [if_neg h2]
        clear h0 h1 h2
        go_enter Tryz.func139, Tryz.ntmps139
        go_wp2
        go_ret
        exact ⟨rfl, rfl⟩
set_option maxHeartbeats 8000000 in
set_option maxRecDepth 100000 in
theorem scoped_any {ts : List Tk} (hT : TOK ts) {n : Nat} (hn : n ≤ 32) {lo : Lv} (hlo : n < 32 → LvOK ts (n + 1) lo) (hlf : LvFair lo) {B : Nat} {M : PM} {S : PS} {w : World} (h : PAt ts B M S w) (hS : S.nest = n) (hp : S.pos + 1 < ts.length) (kind : Int) :
    Calls Tryz.prog 114 #[.pointer (some ⟨M.P, 0, none⟩), .int .i64 kind] w (PAns ts B M w (fun i : Nat => .int .i64 i) (scopedP ts lo kind S)) := by
  obtain ⟨R, hR⟩ : ∃ R, R = scopedP ts lo kind S := ⟨_, rfl⟩
  rw [← hR]
  unfold scopedP at hR
  obtain ⟨t, ht⟩ : ∃ t, t = pk ts S := ⟨_, rfl⟩
  have HTk := Lib.hid ht
  have HPl : Hid (placeT ts S.pos = t.at_) := Lib.hid (by rw [ht]; rfl)
  have HR1 := Lib.hid hR
  have hpl := hT.len
  have h0 := h.pos
  have X0 := Lib.hid (Stp.start h)
  have hbw := h.bsize
  have tf := tokField
  have hnS : S.nest ≤ 32 := by omega
  clear h hR ht
  go_enter Tryz.func114, Tryz.ntmps114
  go_wp2_with (first
    | (go_at_call 68; have PC := X6.out.putK hT S.pos kind key 0 [kid] #[.int .i64 (kid : Nat)] 1 _ rfl rfl rfl (by simp) Q6 O6; rw [HPl.out] at PC; refine PC.mono ?_; rintro e wp ⟨rfl, Mp, xp⟩; have XP := Lib.hid xp; clear xp PC)
    | (go_at_call 97; refine ansU (X5.out.shut hT (by omega) (by omega)) (fun f wz (hr : shutP ts S5 = .error f) hB => by (have eR := HR5.out; rw [hr, then_errE] at eR; subst eR; exact ⟨rfl, rfl, hB⟩)) (fun S6 M6 w6 (hr6 : shutP ts S5 = .ok S6) x6 k6 => ?_); have X6 := Lib.hid x6; have e6 := HR5.out; rw [hr6, then_okE] at e6; have HR6 := Lib.hid e6; have Q6 : S6.parts.length + 1 ≤ S6.pos := (by rw [shut_fair hr6]; have := X5.out.at_.small; simp only [X.on, closeN]; omega); have O6 : S6.offs.length + 1 ≤ S6.pos := (by rw [shut_fair hr6]; have := X5.out.at_.osmall; simp only [X.on, closeN]; omega); clear hr6; clear x6 e6 k6)
    | (go_at_call 28; refine ans (X4.out.fn HL.out.expr N4) (fun f wz (hr : lo.expr S4 = .error f) hB => by (have eR := HR4.out; rw [hr, bind_errE] at eR; subst eR; exact ⟨rfl, rfl, hB⟩)) (fun kid S5 M5 w5 (hr5 : lo.expr S4 = .ok (kid, S5)) x5 k5 => ?_); have X5 := Lib.hid x5; have e5 := HR4.out; rw [hr5, bind_okE] at e5; have HR5 := Lib.hid e5; have N5 : S5.nest = n + 1 := (hlf.expr _ _ _ hr5).nest.trans N4; clear hr5; clear x5 e5 k5)
    | (go_at_call 113; refine ansU (X3.out.mark hT ⟨#[44]⟩) (fun f wz (hr : markP ts [44] S3 = .error f) hB => by (have eR := HR3.out; rw [hr, then_errE] at eR; subst eR; exact ⟨rfl, rfl, hB⟩)) (fun S4 M4 w4 (hr4 : markP ts [44] S3 = .ok S4) x4 k4 => ?_); have X4 := Lib.hid x4; have e4 := HR3.out; rw [hr4, then_okE] at e4; have HR4 := Lib.hid e4; have N4 : S4.nest = n + 1 := (by rw [mark_fair hr4]; exact N3); clear hr4; clear x4 e4 k4)
    | (go_at_call 115; refine ans (X2.out.text hT) (fun f wz (hr : textP ts S2 = .error f) hB => by (have eR := HR2.out; rw [hr, bind_errE] at eR; subst eR; exact ⟨rfl, rfl, hB⟩)) (fun key S3 M3 w3 (hr3 : textP ts S2 = .ok (key, S3)) x3 k3 => ?_); have X3 := Lib.hid x3; have e3 := HR2.out; rw [hr3, bind_okE] at e3; have HR3 := Lib.hid e3; have N3 : S3.nest = n + 1 := (by rw [text_fair hr3]; exact N2); clear hr3; clear x3 e3 k3)
    | (go_at_call 96; refine ansU (X1.out.open hT hnS ⟨#[40]⟩) (fun f wz (hr : openP ts [40] (on S) = .error f) hB => by (have eR := HR1.out; rw [hr, then_errE] at eR; subst eR; exact ⟨rfl, rfl, hB⟩)) (fun S2 M2 w2 (hr2 : openP ts [40] (on S) = .ok S2) x2 k2 => ?_); have X2 := Lib.hid x2; have e2 := HR1.out; rw [hr2, then_okE] at e2; have HR2 := Lib.hid e2; have hn33 : n + 1 ≤ 32 := (by have := (open_fair hr2).2; simp only [X.on] at this; omega); have HL := Lib.hid (hlo (by omega)); have N2 : S2.nest = n + 1 := (by rw [(open_fair hr2).1]; simp only [X.on]; omega); clear hr2; clear x2 e2 k2)
    | (go_at_call 29; refine (X0.out.peek hT).mono ?_; rintro e w1 ⟨he, x1, b1⟩; rw [← HTk.out] at he; simp only [tokCells] at he; subst he; have c1 := x1.c1; have cf := x1.cf; have X1 := Lib.hid (x1.next hp); clear x1 b1))
  go_ret
  have eR := HR6.out
  subst eR
  exact PAns.done XP.out

end Go.Proofs.YtfiljgkcipnghaaGreatDoor.X
set_option linter.unusedVariables false
set_option linter.unusedSimpArgs false
namespace Go.Proofs.YtfiljgkcipnghaaGreatDoor.X
open Go.RowKit
set_option maxHeartbeats 8000000 in
set_option maxRecDepth 100000 in
theorem owned_any {ts : List Tk} (hT : TOK ts) {n : Nat} (hn : n ≤ 32) : PFun ts 127 n (ownedP ts) := by
  intro B M S w h hS
  obtain ⟨R, hR⟩ : ∃ R, R = ownedP ts S := ⟨_, rfl⟩
  rw [← hR]
  unfold ownedP at hR
  obtain ⟨t, ht⟩ : ∃ t, t = pk ts S := ⟨_, rfl⟩
  have HTk := Lib.hid ht
  have HPl : Hid (placeT ts S.pos = t.at_) := Lib.hid (by rw [ht]; rfl)
  have hpl := hT.len
  have h0 := h.pos
  have hsm := h.small
  have hos := h.osmall
  have X0 := Lib.hid (Stp.start h)
  have hbw := h.bsize
  have tf := tokField
  have hnS : S.nest ≤ 32 := by omega
  rw [← ht] at hR
  clear h
  obtain ⟨sd, hsd⟩ : ∃ sd, sd = sideP t.text := ⟨_, rfl⟩
  have HSd := Lib.hid hsd
  rw [← hsd] at hR
  clear hsd
  have hsr : sd = 0 ∨ sd = 1 ∨ sd = 2 ∨ sd = 3 := by rw [HSd.out]; unfold sideP; repeat (first | split | omega)
  by_cases h3 : t.kind = 3
  · have q3 : (t.kind != 3) = false := by rw [h3]; rfl
    have hp2 : S.pos + 1 < ts.length := pos_next hT h0 (by rw [← ht, h3]; decide)
    by_cases s0 : sd = 0
    · rw [if_pos (.inr s0)] at hR
      have q0 : (sd == 0) = true := by simpa using s0
      have HR := Lib.hid hR
      clear hR ht h3 s0 hsr hp2
      go_enter Tryz.func127, Tryz.ntmps127
      go_wp2_with (first
        | (go_at_call 30; refine (X1.out.wrong hT).mono ?_; rintro e w99 ⟨rfl, hB9⟩)
        | (go_at_call 139; have SC := (fun W => side_any t.text W); rw [← HSd.out] at SC; refine (SC _).mono ?_; rintro e wz ⟨rfl, rfl⟩; clear SC)
        | (go_at_call 29; refine (X0.out.peek hT).mono ?_; rintro e w1 ⟨he, x1, b1⟩; rw [← HTk.out] at he; simp only [tokCells] at he; subst he; have X1 := Lib.hid (x1.alloc (.cells (tokCells t) 73)); clear x1 b1))
      have eR := HR.out
      subst eR
      exact ⟨rfl, rfl, hB9⟩
    · rw [if_neg (by rintro (e | e); exact e h3; exact s0 e)] at hR
      have q0 : (sd == 0) = false := by simpa using s0
      clear ht h3 s0 hsr
      unfold ownK at hR
      cases k1 : isT ts (on S) 4 [91] with
      | true =>
        rw [if_pos k1] at hR
        have HR := Lib.hid hR
        have hp3 : (on S).pos + 1 < ts.length := pos_next hT hp2 (by rw [isT_kind k1]; decide)
        clear hR
        go_enter Tryz.func127, Tryz.ntmps127
        go_wp2_with (first
          | (go_at_call 68; have PC := X4.out.put0 hT S.pos 14 s sd Q4 O4; rw [HPl.out] at PC; refine PC.mono ?_; rintro e wp ⟨rfl, Mp, xp, _⟩; have XP := Lib.hid xp; clear xp PC)
          | (go_at_call 113; refine ansU (X3.out.mark hT ⟨#[93]⟩) (fun f wz (hr : markP ts [93] S3 = .error f) hB => by (have eR := HR3.out; rw [hr, then_errE] at eR; subst eR; exact ⟨rfl, rfl, hB⟩)) (fun S4 M4 w4 (hr4 : markP ts [93] S3 = .ok S4) x4 k4 => ?_); have X4 := Lib.hid x4; have e4 := HR3.out; rw [hr4, then_okE] at e4; have HR4 := Lib.hid e4; have Q4 : S4.parts.length + 1 ≤ S4.pos := (by rw [mark_fair hr4]; have := X3.out.at_.small; simp only [on]; omega); have O4 : S4.offs.length + 1 ≤ S4.pos := (by rw [mark_fair hr4]; have := X3.out.at_.osmall; simp only [on]; omega); clear hr4; have L4 := Lib.hid (L3.out.step k4); have K4 := Lib.hid (K3.out.step k4); have c1 := X4.out.c1; have cf := X4.out.cf; have hzz := X4.out.lt; have tc3 : w4.cell? ⟨w1.heap.size, 3, none⟩ = some (.int .i64 (t.at_ : Nat)) := (L4.out.cell 3).trans rfl; have pc0 : w4.cell? ⟨w1.heap.size + 1, 0, none⟩ = some (.int .i64 14) := (K4.out.cell 0).trans rfl; have pc1 : w4.cell? ⟨w1.heap.size + 1, 1, none⟩ = some (.string ⟨s.toArray⟩) := (K4.out.cell 1).trans rfl; have pc2 : w4.cell? ⟨w1.heap.size + 1, 2, none⟩ = some (.int .i64 sd) := (K4.out.cell 2).trans rfl; have pc3 : w4.cell? ⟨w1.heap.size + 1, 3, none⟩ = some (.slice none 0 0) := (K4.out.cell 3).trans rfl; have pf : ∀ j, w4.frozen? ⟨w1.heap.size + 1, j, none⟩ = false := K4.out.frozen; clear x4 e4 k4)
          | (go_at_call 115; refine ans (X2.out.text hT) (fun f wz (hr : textP ts (on (on S)) = .error f) hB => by (have eR := HR2.out; rw [hr, bind_errE] at eR; subst eR; exact ⟨rfl, rfl, hB⟩)) (fun s S3 M3 w3 (hr3 : textP ts (on (on S)) = .ok (s, S3)) x3 k3 => ?_); have X3 := Lib.hid x3; have e3 := HR2.out; rw [hr3, bind_okE] at e3; have HR3 := Lib.hid e3; clear hr3; have l9 := L2.out.step k3; have m9 := K2.out.step k3; have L3 := Lib.hid l9; have K3 := Lib.hid m9; have c1 := X3.out.c1; have cf := X3.out.cf; have hzz := X3.out.lt; have tc3 : w3.cell? ⟨w1.heap.size, 3, none⟩ = some (.int .i64 (t.at_ : Nat)) := (L3.out.cell 3).trans rfl; have pc0 : w3.cell? ⟨w1.heap.size + 1, 0, none⟩ = some (.int .i64 0) := (K3.out.cell 0).trans rfl; have pc1 : w3.cell? ⟨w1.heap.size + 1, 1, none⟩ = some (.string ⟨#[]⟩) := (K3.out.cell 1).trans rfl; have pc2 : w3.cell? ⟨w1.heap.size + 1, 2, none⟩ = some (.int .i64 sd) := (K3.out.cell 2).trans rfl; have pc3 : w3.cell? ⟨w1.heap.size + 1, 3, none⟩ = some (.slice none 0 0) := (K3.out.cell 3).trans rfl; have pf : ∀ j, w3.frozen? ⟨w1.heap.size + 1, j, none⟩ = false := K3.out.frozen; have X3 := Lib.hid ((X3.out.poke m9 (by omega) 0 (.int .i64 14)).poke (m9.poke 0 (.int .i64 14)) (by omega) 1 (.string ⟨s.toArray⟩)); have L3 := Lib.hid ((l9.other (g2 := w1.heap.size + 1) (by omega) 0 (.int .i64 14)).other (g2 := w1.heap.size + 1) (by omega) 1 (.string ⟨s.toArray⟩)); have K3 := Lib.hid ((m9.poke 0 (.int .i64 14)).poke 1 (.string ⟨s.toArray⟩)); clear l9 m9; clear x3 e3 k3)
          | (go_at_call 67; refine (X1.out.is hT 4 ⟨#[91]⟩).mono ?_; rintro e w2 ⟨he, x2, b2⟩; rw [show isT ts _ 4 (⟨#[91]⟩ : ByteArray).data.toList = true from k1] at he; subst he; have X2 := Lib.hid x2; have L2 := Lib.hid (L1.out.below b2); have K2 := Lib.hid (K1.out.below b2); have c1 := X2.out.c1; have cf := X2.out.cf; have hzz := X2.out.lt; have tc3 : w2.cell? ⟨w1.heap.size, 3, none⟩ = some (.int .i64 (t.at_ : Nat)) := (L2.out.cell 3).trans rfl; have pc0 : w2.cell? ⟨w1.heap.size + 1, 0, none⟩ = some (.int .i64 0) := (K2.out.cell 0).trans rfl; have pc1 : w2.cell? ⟨w1.heap.size + 1, 1, none⟩ = some (.string ⟨#[]⟩) := (K2.out.cell 1).trans rfl; have pc2 : w2.cell? ⟨w1.heap.size + 1, 2, none⟩ = some (.int .i64 sd) := (K2.out.cell 2).trans rfl; have pc3 : w2.cell? ⟨w1.heap.size + 1, 3, none⟩ = some (.slice none 0 0) := (K2.out.cell 3).trans rfl; have pf : ∀ j, w2.frozen? ⟨w1.heap.size + 1, j, none⟩ = false := K2.out.frozen; have l9 := L2.out; have m9 := K2.out; have X2 := Lib.hid (X2.out.next hp3); have L2 := Lib.hid (l9.other (g2 := M.P) hne1 1 (.int .i64 (((on S).pos : Int) + 1))); have K2 := Lib.hid (m9.other (g2 := M.P) hne3 1 (.int .i64 (((on S).pos : Int) + 1))); clear l9 m9; have HR2 := Lib.hid HR.out; clear x2 b2)
          | (go_at_call 139; have SC := (fun W => side_any t.text W); rw [← HSd.out] at SC; refine (SC _).mono ?_; rintro e wz ⟨rfl, rfl⟩; clear SC)
          | (go_at_call 29; refine (X0.out.peek hT).mono ?_; rintro e w1 ⟨he, x1, b1⟩; rw [← HTk.out] at he; simp only [tokCells] at he; subst he; have c1 := x1.c1; have cf := x1.cf; have hz1 := x1.lt; have hne1 : ¬ M.P = w1.heap.size := (by omega); have hne2 : ¬ w1.heap.size = M.P := (by omega); have hne3 : ¬ M.P = w1.heap.size + 1 := (by omega); have hne4 : ¬ w1.heap.size + 1 = M.P := (by omega); have Y1 := x1.next hp2; have YA := Y1.alloc (.cells (tokCells t) 73); have X1 := Lib.hid (YA.alloc (.cells #[.int .i64 0, .string ⟨#[]⟩, .int .i64 sd, .slice none 0 0] 49)); have zq : (w1.setCell ⟨M.P, 1, none⟩ (.int .i64 ((S.pos : Int) + 1))).heap.size = w1.heap.size := (by simp); have l1 := (Loc.new Y1.at_ (.cells (tokCells t) 73)).alloc (.cells #[.int .i64 0, .string ⟨#[]⟩, .int .i64 sd, .slice none 0 0] 49); have m1 := Loc.new YA.at_ (.cells #[.int .i64 0, .string ⟨#[]⟩, .int .i64 sd, .slice none 0 0] 49); rw [World.size_alloc, zq] at m1; rw [zq] at l1; have L1 := Lib.hid l1; have K1 := Lib.hid m1; have hgw := x1.kept.size; clear x1 b1 Y1 YA zq l1 m1))
        go_ret
        have eR := HR4.out
        subst eR
        exact PAns.done XP.out
      | false =>
        rw [if_neg (by rw [k1]; decide)] at hR
        cases k2 : isT ts (on S) 4 [46] with
        | false =>
          rw [if_neg (by rw [k2]; decide)] at hR
          have HR := Lib.hid hR
          clear hR
          go_enter Tryz.func127, Tryz.ntmps127
          go_wp2_with (first
            | (go_at_call 30; refine (X3.out.wrong hT).mono ?_; rintro e w99 ⟨rfl, hB9⟩)
            | (go_at_call 67; refine (X2.out.is hT 4 ⟨#[46]⟩).mono ?_; rintro e w3 ⟨he, x3, b3⟩; rw [show isT ts _ 4 (⟨#[46]⟩ : ByteArray).data.toList = false from k2] at he; subst he; have X3 := Lib.hid x3; have L3 := Lib.hid (L2.out.below b3); have K3 := Lib.hid (K2.out.below b3); have c1 := X3.out.c1; have cf := X3.out.cf; have hzz := X3.out.lt; have tc3 : w3.cell? ⟨w1.heap.size, 3, none⟩ = some (.int .i64 (t.at_ : Nat)) := (L3.out.cell 3).trans rfl; have pc0 : w3.cell? ⟨w1.heap.size + 1, 0, none⟩ = some (.int .i64 0) := (K3.out.cell 0).trans rfl; have pc1 : w3.cell? ⟨w1.heap.size + 1, 1, none⟩ = some (.string ⟨#[]⟩) := (K3.out.cell 1).trans rfl; have pc2 : w3.cell? ⟨w1.heap.size + 1, 2, none⟩ = some (.int .i64 sd) := (K3.out.cell 2).trans rfl; have pc3 : w3.cell? ⟨w1.heap.size + 1, 3, none⟩ = some (.slice none 0 0) := (K3.out.cell 3).trans rfl; have pf : ∀ j, w3.frozen? ⟨w1.heap.size + 1, j, none⟩ = false := K3.out.frozen; clear x3 b3)
            | (go_at_call 67; refine (X1.out.is hT 4 ⟨#[91]⟩).mono ?_; rintro e w2 ⟨he, x2, b2⟩; rw [show isT ts _ 4 (⟨#[91]⟩ : ByteArray).data.toList = false from k1] at he; subst he; have X2 := Lib.hid x2; have L2 := Lib.hid (L1.out.below b2); have K2 := Lib.hid (K1.out.below b2); have c1 := X2.out.c1; have cf := X2.out.cf; have hzz := X2.out.lt; have tc3 : w2.cell? ⟨w1.heap.size, 3, none⟩ = some (.int .i64 (t.at_ : Nat)) := (L2.out.cell 3).trans rfl; have pc0 : w2.cell? ⟨w1.heap.size + 1, 0, none⟩ = some (.int .i64 0) := (K2.out.cell 0).trans rfl; have pc1 : w2.cell? ⟨w1.heap.size + 1, 1, none⟩ = some (.string ⟨#[]⟩) := (K2.out.cell 1).trans rfl; have pc2 : w2.cell? ⟨w1.heap.size + 1, 2, none⟩ = some (.int .i64 sd) := (K2.out.cell 2).trans rfl; have pc3 : w2.cell? ⟨w1.heap.size + 1, 3, none⟩ = some (.slice none 0 0) := (K2.out.cell 3).trans rfl; have pf : ∀ j, w2.frozen? ⟨w1.heap.size + 1, j, none⟩ = false := K2.out.frozen; clear x2 b2)
            | (go_at_call 139; have SC := (fun W => side_any t.text W); rw [← HSd.out] at SC; refine (SC _).mono ?_; rintro e wz ⟨rfl, rfl⟩; clear SC)
            | (go_at_call 29; refine (X0.out.peek hT).mono ?_; rintro e w1 ⟨he, x1, b1⟩; rw [← HTk.out] at he; simp only [tokCells] at he; subst he; have c1 := x1.c1; have cf := x1.cf; have hz1 := x1.lt; have hne1 : ¬ M.P = w1.heap.size := (by omega); have hne2 : ¬ w1.heap.size = M.P := (by omega); have hne3 : ¬ M.P = w1.heap.size + 1 := (by omega); have hne4 : ¬ w1.heap.size + 1 = M.P := (by omega); have Y1 := x1.next hp2; have YA := Y1.alloc (.cells (tokCells t) 73); have X1 := Lib.hid (YA.alloc (.cells #[.int .i64 0, .string ⟨#[]⟩, .int .i64 sd, .slice none 0 0] 49)); have zq : (w1.setCell ⟨M.P, 1, none⟩ (.int .i64 ((S.pos : Int) + 1))).heap.size = w1.heap.size := (by simp); have l1 := (Loc.new Y1.at_ (.cells (tokCells t) 73)).alloc (.cells #[.int .i64 0, .string ⟨#[]⟩, .int .i64 sd, .slice none 0 0] 49); have m1 := Loc.new YA.at_ (.cells #[.int .i64 0, .string ⟨#[]⟩, .int .i64 sd, .slice none 0 0] 49); rw [World.size_alloc, zq] at m1; rw [zq] at l1; have L1 := Lib.hid l1; have K1 := Lib.hid m1; have hgw := x1.kept.size; clear x1 b1 Y1 YA zq l1 m1))
          have eR := HR.out
          subst eR
          exact ⟨rfl, rfl, hB9⟩
        | true =>
          rw [if_pos k2] at hR
          unfold ownN at hR
          have hp3 : (on S).pos + 1 < ts.length := pos_next hT hp2 (by rw [isT_kind k2]; decide)
          cases n0 : isT ts (on (on S)) 3 [110, 97, 109, 101] with
          | true =>
            rw [if_pos n0] at hR
            have HR := Lib.hid hR
            have hp4 : (on (on S)).pos + 1 < ts.length := pos_next hT hp3 (by rw [isT_kind n0]; decide)
            clear hR
            go_enter Tryz.func127, Tryz.ntmps127
            go_wp2_with (first
              | (go_at_call 68; have PC := X4.out.put0 hT S.pos 15 [] sd (by simp only [on]; omega) (by simp only [on]; omega); rw [HPl.out] at PC; refine PC.mono ?_; rintro e wp ⟨rfl, Mp, xp, _⟩; have XP := Lib.hid xp; clear xp PC)
              | (go_at_call 67; refine (X3.out.is hT 3 ⟨#[110, 97, 109, 101]⟩).mono ?_; rintro e w4 ⟨he, x4, b4⟩; rw [show isT ts _ 3 (⟨#[110, 97, 109, 101]⟩ : ByteArray).data.toList = true from n0] at he; subst he; have X4 := Lib.hid x4; have L4 := Lib.hid (L3.out.below b4); have K4 := Lib.hid (K3.out.below b4); have c1 := X4.out.c1; have cf := X4.out.cf; have hzz := X4.out.lt; have tc3 : w4.cell? ⟨w1.heap.size, 3, none⟩ = some (.int .i64 (t.at_ : Nat)) := (L4.out.cell 3).trans rfl; have pc0 : w4.cell? ⟨w1.heap.size + 1, 0, none⟩ = some (.int .i64 0) := (K4.out.cell 0).trans rfl; have pc1 : w4.cell? ⟨w1.heap.size + 1, 1, none⟩ = some (.string ⟨#[]⟩) := (K4.out.cell 1).trans rfl; have pc2 : w4.cell? ⟨w1.heap.size + 1, 2, none⟩ = some (.int .i64 sd) := (K4.out.cell 2).trans rfl; have pc3 : w4.cell? ⟨w1.heap.size + 1, 3, none⟩ = some (.slice none 0 0) := (K4.out.cell 3).trans rfl; have pf : ∀ j, w4.frozen? ⟨w1.heap.size + 1, j, none⟩ = false := K4.out.frozen; have x9 := X4.out; have l9 := L4.out; have m9 := K4.out; have y9 := x9.poke m9 (by omega) 0 (.int .i64 15); have X4 := Lib.hid (y9.next hp4); have L4 := Lib.hid ((l9.other (g2 := w1.heap.size + 1) (by omega) 0 (.int .i64 15)).other (g2 := M.P) hne1 1 (.int .i64 (((on (on S)).pos : Int) + 1))); have K4 := Lib.hid ((m9.poke 0 (.int .i64 15)).other (g2 := M.P) hne3 1 (.int .i64 (((on (on S)).pos : Int) + 1))); clear x9 l9 m9 y9; clear x4 b4)
              | (go_at_call 67; refine (X2.out.is hT 4 ⟨#[46]⟩).mono ?_; rintro e w3 ⟨he, x3, b3⟩; rw [show isT ts _ 4 (⟨#[46]⟩ : ByteArray).data.toList = true from k2] at he; subst he; have X3 := Lib.hid x3; have L3 := Lib.hid (L2.out.below b3); have K3 := Lib.hid (K2.out.below b3); have c1 := X3.out.c1; have cf := X3.out.cf; have hzz := X3.out.lt; have tc3 : w3.cell? ⟨w1.heap.size, 3, none⟩ = some (.int .i64 (t.at_ : Nat)) := (L3.out.cell 3).trans rfl; have pc0 : w3.cell? ⟨w1.heap.size + 1, 0, none⟩ = some (.int .i64 0) := (K3.out.cell 0).trans rfl; have pc1 : w3.cell? ⟨w1.heap.size + 1, 1, none⟩ = some (.string ⟨#[]⟩) := (K3.out.cell 1).trans rfl; have pc2 : w3.cell? ⟨w1.heap.size + 1, 2, none⟩ = some (.int .i64 sd) := (K3.out.cell 2).trans rfl; have pc3 : w3.cell? ⟨w1.heap.size + 1, 3, none⟩ = some (.slice none 0 0) := (K3.out.cell 3).trans rfl; have pf : ∀ j, w3.frozen? ⟨w1.heap.size + 1, j, none⟩ = false := K3.out.frozen; have l9 := L3.out; have m9 := K3.out; have X3 := Lib.hid (X3.out.next hp3); have L3 := Lib.hid (l9.other (g2 := M.P) hne1 1 (.int .i64 (((on S).pos : Int) + 1))); have K3 := Lib.hid (m9.other (g2 := M.P) hne3 1 (.int .i64 (((on S).pos : Int) + 1))); clear l9 m9; clear x3 b3)
              | (go_at_call 67; refine (X1.out.is hT 4 ⟨#[91]⟩).mono ?_; rintro e w2 ⟨he, x2, b2⟩; rw [show isT ts _ 4 (⟨#[91]⟩ : ByteArray).data.toList = false from k1] at he; subst he; have X2 := Lib.hid x2; have L2 := Lib.hid (L1.out.below b2); have K2 := Lib.hid (K1.out.below b2); have c1 := X2.out.c1; have cf := X2.out.cf; have hzz := X2.out.lt; have tc3 : w2.cell? ⟨w1.heap.size, 3, none⟩ = some (.int .i64 (t.at_ : Nat)) := (L2.out.cell 3).trans rfl; have pc0 : w2.cell? ⟨w1.heap.size + 1, 0, none⟩ = some (.int .i64 0) := (K2.out.cell 0).trans rfl; have pc1 : w2.cell? ⟨w1.heap.size + 1, 1, none⟩ = some (.string ⟨#[]⟩) := (K2.out.cell 1).trans rfl; have pc2 : w2.cell? ⟨w1.heap.size + 1, 2, none⟩ = some (.int .i64 sd) := (K2.out.cell 2).trans rfl; have pc3 : w2.cell? ⟨w1.heap.size + 1, 3, none⟩ = some (.slice none 0 0) := (K2.out.cell 3).trans rfl; have pf : ∀ j, w2.frozen? ⟨w1.heap.size + 1, j, none⟩ = false := K2.out.frozen; clear x2 b2)
              | (go_at_call 139; have SC := (fun W => side_any t.text W); rw [← HSd.out] at SC; refine (SC _).mono ?_; rintro e wz ⟨rfl, rfl⟩; clear SC)
              | (go_at_call 29; refine (X0.out.peek hT).mono ?_; rintro e w1 ⟨he, x1, b1⟩; rw [← HTk.out] at he; simp only [tokCells] at he; subst he; have c1 := x1.c1; have cf := x1.cf; have hz1 := x1.lt; have hne1 : ¬ M.P = w1.heap.size := (by omega); have hne2 : ¬ w1.heap.size = M.P := (by omega); have hne3 : ¬ M.P = w1.heap.size + 1 := (by omega); have hne4 : ¬ w1.heap.size + 1 = M.P := (by omega); have Y1 := x1.next hp2; have YA := Y1.alloc (.cells (tokCells t) 73); have X1 := Lib.hid (YA.alloc (.cells #[.int .i64 0, .string ⟨#[]⟩, .int .i64 sd, .slice none 0 0] 49)); have zq : (w1.setCell ⟨M.P, 1, none⟩ (.int .i64 ((S.pos : Int) + 1))).heap.size = w1.heap.size := (by simp); have l1 := (Loc.new Y1.at_ (.cells (tokCells t) 73)).alloc (.cells #[.int .i64 0, .string ⟨#[]⟩, .int .i64 sd, .slice none 0 0] 49); have m1 := Loc.new YA.at_ (.cells #[.int .i64 0, .string ⟨#[]⟩, .int .i64 sd, .slice none 0 0] 49); rw [World.size_alloc, zq] at m1; rw [zq] at l1; have L1 := Lib.hid l1; have K1 := Lib.hid m1; have hgw := x1.kept.size; clear x1 b1 Y1 YA zq l1 m1))
            go_ret
            have eR := HR.out
            subst eR
            exact PAns.done XP.out
          | false =>
            rw [if_neg (by rw [n0]; decide)] at hR
            cases n1 : isT ts (on (on S)) 3 [107, 101, 121, 115] with
            | true =>
              rw [if_pos n1] at hR
              have HR := Lib.hid hR
              have hp4 : (on (on S)).pos + 1 < ts.length := pos_next hT hp3 (by rw [isT_kind n1]; decide)
              clear hR
              go_enter Tryz.func127, Tryz.ntmps127
              go_wp2_with (first
                | (go_at_call 68; have PC := X5.out.put0 hT S.pos 16 [] sd (by simp only [on]; omega) (by simp only [on]; omega); rw [HPl.out] at PC; refine PC.mono ?_; rintro e wp ⟨rfl, Mp, xp, _⟩; have XP := Lib.hid xp; clear xp PC)
                | (go_at_call 67; refine (X4.out.is hT 3 ⟨#[107, 101, 121, 115]⟩).mono ?_; rintro e w5 ⟨he, x5, b5⟩; rw [show isT ts _ 3 (⟨#[107, 101, 121, 115]⟩ : ByteArray).data.toList = true from n1] at he; subst he; have X5 := Lib.hid x5; have L5 := Lib.hid (L4.out.below b5); have K5 := Lib.hid (K4.out.below b5); have c1 := X5.out.c1; have cf := X5.out.cf; have hzz := X5.out.lt; have tc3 : w5.cell? ⟨w1.heap.size, 3, none⟩ = some (.int .i64 (t.at_ : Nat)) := (L5.out.cell 3).trans rfl; have pc0 : w5.cell? ⟨w1.heap.size + 1, 0, none⟩ = some (.int .i64 0) := (K5.out.cell 0).trans rfl; have pc1 : w5.cell? ⟨w1.heap.size + 1, 1, none⟩ = some (.string ⟨#[]⟩) := (K5.out.cell 1).trans rfl; have pc2 : w5.cell? ⟨w1.heap.size + 1, 2, none⟩ = some (.int .i64 sd) := (K5.out.cell 2).trans rfl; have pc3 : w5.cell? ⟨w1.heap.size + 1, 3, none⟩ = some (.slice none 0 0) := (K5.out.cell 3).trans rfl; have pf : ∀ j, w5.frozen? ⟨w1.heap.size + 1, j, none⟩ = false := K5.out.frozen; have x9 := X5.out; have l9 := L5.out; have m9 := K5.out; have y9 := x9.poke m9 (by omega) 0 (.int .i64 16); have X5 := Lib.hid (y9.next hp4); have L5 := Lib.hid ((l9.other (g2 := w1.heap.size + 1) (by omega) 0 (.int .i64 16)).other (g2 := M.P) hne1 1 (.int .i64 (((on (on S)).pos : Int) + 1))); have K5 := Lib.hid ((m9.poke 0 (.int .i64 16)).other (g2 := M.P) hne3 1 (.int .i64 (((on (on S)).pos : Int) + 1))); clear x9 l9 m9 y9; clear x5 b5)
                | (go_at_call 67; refine (X3.out.is hT 3 ⟨#[110, 97, 109, 101]⟩).mono ?_; rintro e w4 ⟨he, x4, b4⟩; rw [show isT ts _ 3 (⟨#[110, 97, 109, 101]⟩ : ByteArray).data.toList = false from n0] at he; subst he; have X4 := Lib.hid x4; have L4 := Lib.hid (L3.out.below b4); have K4 := Lib.hid (K3.out.below b4); have c1 := X4.out.c1; have cf := X4.out.cf; have hzz := X4.out.lt; have tc3 : w4.cell? ⟨w1.heap.size, 3, none⟩ = some (.int .i64 (t.at_ : Nat)) := (L4.out.cell 3).trans rfl; have pc0 : w4.cell? ⟨w1.heap.size + 1, 0, none⟩ = some (.int .i64 0) := (K4.out.cell 0).trans rfl; have pc1 : w4.cell? ⟨w1.heap.size + 1, 1, none⟩ = some (.string ⟨#[]⟩) := (K4.out.cell 1).trans rfl; have pc2 : w4.cell? ⟨w1.heap.size + 1, 2, none⟩ = some (.int .i64 sd) := (K4.out.cell 2).trans rfl; have pc3 : w4.cell? ⟨w1.heap.size + 1, 3, none⟩ = some (.slice none 0 0) := (K4.out.cell 3).trans rfl; have pf : ∀ j, w4.frozen? ⟨w1.heap.size + 1, j, none⟩ = false := K4.out.frozen; clear x4 b4)
                | (go_at_call 67; refine (X2.out.is hT 4 ⟨#[46]⟩).mono ?_; rintro e w3 ⟨he, x3, b3⟩; rw [show isT ts _ 4 (⟨#[46]⟩ : ByteArray).data.toList = true from k2] at he; subst he; have X3 := Lib.hid x3; have L3 := Lib.hid (L2.out.below b3); have K3 := Lib.hid (K2.out.below b3); have c1 := X3.out.c1; have cf := X3.out.cf; have hzz := X3.out.lt; have tc3 : w3.cell? ⟨w1.heap.size, 3, none⟩ = some (.int .i64 (t.at_ : Nat)) := (L3.out.cell 3).trans rfl; have pc0 : w3.cell? ⟨w1.heap.size + 1, 0, none⟩ = some (.int .i64 0) := (K3.out.cell 0).trans rfl; have pc1 : w3.cell? ⟨w1.heap.size + 1, 1, none⟩ = some (.string ⟨#[]⟩) := (K3.out.cell 1).trans rfl; have pc2 : w3.cell? ⟨w1.heap.size + 1, 2, none⟩ = some (.int .i64 sd) := (K3.out.cell 2).trans rfl; have pc3 : w3.cell? ⟨w1.heap.size + 1, 3, none⟩ = some (.slice none 0 0) := (K3.out.cell 3).trans rfl; have pf : ∀ j, w3.frozen? ⟨w1.heap.size + 1, j, none⟩ = false := K3.out.frozen; have l9 := L3.out; have m9 := K3.out; have X3 := Lib.hid (X3.out.next hp3); have L3 := Lib.hid (l9.other (g2 := M.P) hne1 1 (.int .i64 (((on S).pos : Int) + 1))); have K3 := Lib.hid (m9.other (g2 := M.P) hne3 1 (.int .i64 (((on S).pos : Int) + 1))); clear l9 m9; clear x3 b3)
                | (go_at_call 67; refine (X1.out.is hT 4 ⟨#[91]⟩).mono ?_; rintro e w2 ⟨he, x2, b2⟩; rw [show isT ts _ 4 (⟨#[91]⟩ : ByteArray).data.toList = false from k1] at he; subst he; have X2 := Lib.hid x2; have L2 := Lib.hid (L1.out.below b2); have K2 := Lib.hid (K1.out.below b2); have c1 := X2.out.c1; have cf := X2.out.cf; have hzz := X2.out.lt; have tc3 : w2.cell? ⟨w1.heap.size, 3, none⟩ = some (.int .i64 (t.at_ : Nat)) := (L2.out.cell 3).trans rfl; have pc0 : w2.cell? ⟨w1.heap.size + 1, 0, none⟩ = some (.int .i64 0) := (K2.out.cell 0).trans rfl; have pc1 : w2.cell? ⟨w1.heap.size + 1, 1, none⟩ = some (.string ⟨#[]⟩) := (K2.out.cell 1).trans rfl; have pc2 : w2.cell? ⟨w1.heap.size + 1, 2, none⟩ = some (.int .i64 sd) := (K2.out.cell 2).trans rfl; have pc3 : w2.cell? ⟨w1.heap.size + 1, 3, none⟩ = some (.slice none 0 0) := (K2.out.cell 3).trans rfl; have pf : ∀ j, w2.frozen? ⟨w1.heap.size + 1, j, none⟩ = false := K2.out.frozen; clear x2 b2)
                | (go_at_call 139; have SC := (fun W => side_any t.text W); rw [← HSd.out] at SC; refine (SC _).mono ?_; rintro e wz ⟨rfl, rfl⟩; clear SC)
                | (go_at_call 29; refine (X0.out.peek hT).mono ?_; rintro e w1 ⟨he, x1, b1⟩; rw [← HTk.out] at he; simp only [tokCells] at he; subst he; have c1 := x1.c1; have cf := x1.cf; have hz1 := x1.lt; have hne1 : ¬ M.P = w1.heap.size := (by omega); have hne2 : ¬ w1.heap.size = M.P := (by omega); have hne3 : ¬ M.P = w1.heap.size + 1 := (by omega); have hne4 : ¬ w1.heap.size + 1 = M.P := (by omega); have Y1 := x1.next hp2; have YA := Y1.alloc (.cells (tokCells t) 73); have X1 := Lib.hid (YA.alloc (.cells #[.int .i64 0, .string ⟨#[]⟩, .int .i64 sd, .slice none 0 0] 49)); have zq : (w1.setCell ⟨M.P, 1, none⟩ (.int .i64 ((S.pos : Int) + 1))).heap.size = w1.heap.size := (by simp); have l1 := (Loc.new Y1.at_ (.cells (tokCells t) 73)).alloc (.cells #[.int .i64 0, .string ⟨#[]⟩, .int .i64 sd, .slice none 0 0] 49); have m1 := Loc.new YA.at_ (.cells #[.int .i64 0, .string ⟨#[]⟩, .int .i64 sd, .slice none 0 0] 49); rw [World.size_alloc, zq] at m1; rw [zq] at l1; have L1 := Lib.hid l1; have K1 := Lib.hid m1; have hgw := x1.kept.size; clear x1 b1 Y1 YA zq l1 m1))
              go_ret
              have eR := HR.out
              subst eR
              exact PAns.done XP.out
            | false =>
              rw [if_neg (by rw [n1]; decide)] at hR
              cases n2 : isT ts (on (on S)) 3 [116, 97, 105, 110, 116, 115] with
              | true =>
                rw [if_pos n2] at hR
                have HR := Lib.hid hR
                have hp4 : (on (on S)).pos + 1 < ts.length := pos_next hT hp3 (by rw [isT_kind n2]; decide)
                clear hR
                go_enter Tryz.func127, Tryz.ntmps127
                go_wp2_with (first
                  | (go_at_call 68; have PC := X6.out.put0 hT S.pos 17 [] sd (by simp only [on]; omega) (by simp only [on]; omega); rw [HPl.out] at PC; refine PC.mono ?_; rintro e wp ⟨rfl, Mp, xp, _⟩; have XP := Lib.hid xp; clear xp PC)
                  | (go_at_call 67; refine (X5.out.is hT 3 ⟨#[116, 97, 105, 110, 116, 115]⟩).mono ?_; rintro e w6 ⟨he, x6, b6⟩; rw [show isT ts _ 3 (⟨#[116, 97, 105, 110, 116, 115]⟩ : ByteArray).data.toList = true from n2] at he; subst he; have X6 := Lib.hid x6; have L6 := Lib.hid (L5.out.below b6); have K6 := Lib.hid (K5.out.below b6); have c1 := X6.out.c1; have cf := X6.out.cf; have hzz := X6.out.lt; have tc3 : w6.cell? ⟨w1.heap.size, 3, none⟩ = some (.int .i64 (t.at_ : Nat)) := (L6.out.cell 3).trans rfl; have pc0 : w6.cell? ⟨w1.heap.size + 1, 0, none⟩ = some (.int .i64 0) := (K6.out.cell 0).trans rfl; have pc1 : w6.cell? ⟨w1.heap.size + 1, 1, none⟩ = some (.string ⟨#[]⟩) := (K6.out.cell 1).trans rfl; have pc2 : w6.cell? ⟨w1.heap.size + 1, 2, none⟩ = some (.int .i64 sd) := (K6.out.cell 2).trans rfl; have pc3 : w6.cell? ⟨w1.heap.size + 1, 3, none⟩ = some (.slice none 0 0) := (K6.out.cell 3).trans rfl; have pf : ∀ j, w6.frozen? ⟨w1.heap.size + 1, j, none⟩ = false := K6.out.frozen; have x9 := X6.out; have l9 := L6.out; have m9 := K6.out; have y9 := x9.poke m9 (by omega) 0 (.int .i64 17); have X6 := Lib.hid (y9.next hp4); have L6 := Lib.hid ((l9.other (g2 := w1.heap.size + 1) (by omega) 0 (.int .i64 17)).other (g2 := M.P) hne1 1 (.int .i64 (((on (on S)).pos : Int) + 1))); have K6 := Lib.hid ((m9.poke 0 (.int .i64 17)).other (g2 := M.P) hne3 1 (.int .i64 (((on (on S)).pos : Int) + 1))); clear x9 l9 m9 y9; clear x6 b6)
                  | (go_at_call 67; refine (X4.out.is hT 3 ⟨#[107, 101, 121, 115]⟩).mono ?_; rintro e w5 ⟨he, x5, b5⟩; rw [show isT ts _ 3 (⟨#[107, 101, 121, 115]⟩ : ByteArray).data.toList = false from n1] at he; subst he; have X5 := Lib.hid x5; have L5 := Lib.hid (L4.out.below b5); have K5 := Lib.hid (K4.out.below b5); have c1 := X5.out.c1; have cf := X5.out.cf; have hzz := X5.out.lt; have tc3 : w5.cell? ⟨w1.heap.size, 3, none⟩ = some (.int .i64 (t.at_ : Nat)) := (L5.out.cell 3).trans rfl; have pc0 : w5.cell? ⟨w1.heap.size + 1, 0, none⟩ = some (.int .i64 0) := (K5.out.cell 0).trans rfl; have pc1 : w5.cell? ⟨w1.heap.size + 1, 1, none⟩ = some (.string ⟨#[]⟩) := (K5.out.cell 1).trans rfl; have pc2 : w5.cell? ⟨w1.heap.size + 1, 2, none⟩ = some (.int .i64 sd) := (K5.out.cell 2).trans rfl; have pc3 : w5.cell? ⟨w1.heap.size + 1, 3, none⟩ = some (.slice none 0 0) := (K5.out.cell 3).trans rfl; have pf : ∀ j, w5.frozen? ⟨w1.heap.size + 1, j, none⟩ = false := K5.out.frozen; clear x5 b5)
                  | (go_at_call 67; refine (X3.out.is hT 3 ⟨#[110, 97, 109, 101]⟩).mono ?_; rintro e w4 ⟨he, x4, b4⟩; rw [show isT ts _ 3 (⟨#[110, 97, 109, 101]⟩ : ByteArray).data.toList = false from n0] at he; subst he; have X4 := Lib.hid x4; have L4 := Lib.hid (L3.out.below b4); have K4 := Lib.hid (K3.out.below b4); have c1 := X4.out.c1; have cf := X4.out.cf; have hzz := X4.out.lt; have tc3 : w4.cell? ⟨w1.heap.size, 3, none⟩ = some (.int .i64 (t.at_ : Nat)) := (L4.out.cell 3).trans rfl; have pc0 : w4.cell? ⟨w1.heap.size + 1, 0, none⟩ = some (.int .i64 0) := (K4.out.cell 0).trans rfl; have pc1 : w4.cell? ⟨w1.heap.size + 1, 1, none⟩ = some (.string ⟨#[]⟩) := (K4.out.cell 1).trans rfl; have pc2 : w4.cell? ⟨w1.heap.size + 1, 2, none⟩ = some (.int .i64 sd) := (K4.out.cell 2).trans rfl; have pc3 : w4.cell? ⟨w1.heap.size + 1, 3, none⟩ = some (.slice none 0 0) := (K4.out.cell 3).trans rfl; have pf : ∀ j, w4.frozen? ⟨w1.heap.size + 1, j, none⟩ = false := K4.out.frozen; clear x4 b4)
                  | (go_at_call 67; refine (X2.out.is hT 4 ⟨#[46]⟩).mono ?_; rintro e w3 ⟨he, x3, b3⟩; rw [show isT ts _ 4 (⟨#[46]⟩ : ByteArray).data.toList = true from k2] at he; subst he; have X3 := Lib.hid x3; have L3 := Lib.hid (L2.out.below b3); have K3 := Lib.hid (K2.out.below b3); have c1 := X3.out.c1; have cf := X3.out.cf; have hzz := X3.out.lt; have tc3 : w3.cell? ⟨w1.heap.size, 3, none⟩ = some (.int .i64 (t.at_ : Nat)) := (L3.out.cell 3).trans rfl; have pc0 : w3.cell? ⟨w1.heap.size + 1, 0, none⟩ = some (.int .i64 0) := (K3.out.cell 0).trans rfl; have pc1 : w3.cell? ⟨w1.heap.size + 1, 1, none⟩ = some (.string ⟨#[]⟩) := (K3.out.cell 1).trans rfl; have pc2 : w3.cell? ⟨w1.heap.size + 1, 2, none⟩ = some (.int .i64 sd) := (K3.out.cell 2).trans rfl; have pc3 : w3.cell? ⟨w1.heap.size + 1, 3, none⟩ = some (.slice none 0 0) := (K3.out.cell 3).trans rfl; have pf : ∀ j, w3.frozen? ⟨w1.heap.size + 1, j, none⟩ = false := K3.out.frozen; have l9 := L3.out; have m9 := K3.out; have X3 := Lib.hid (X3.out.next hp3); have L3 := Lib.hid (l9.other (g2 := M.P) hne1 1 (.int .i64 (((on S).pos : Int) + 1))); have K3 := Lib.hid (m9.other (g2 := M.P) hne3 1 (.int .i64 (((on S).pos : Int) + 1))); clear l9 m9; clear x3 b3)
                  | (go_at_call 67; refine (X1.out.is hT 4 ⟨#[91]⟩).mono ?_; rintro e w2 ⟨he, x2, b2⟩; rw [show isT ts _ 4 (⟨#[91]⟩ : ByteArray).data.toList = false from k1] at he; subst he; have X2 := Lib.hid x2; have L2 := Lib.hid (L1.out.below b2); have K2 := Lib.hid (K1.out.below b2); have c1 := X2.out.c1; have cf := X2.out.cf; have hzz := X2.out.lt; have tc3 : w2.cell? ⟨w1.heap.size, 3, none⟩ = some (.int .i64 (t.at_ : Nat)) := (L2.out.cell 3).trans rfl; have pc0 : w2.cell? ⟨w1.heap.size + 1, 0, none⟩ = some (.int .i64 0) := (K2.out.cell 0).trans rfl; have pc1 : w2.cell? ⟨w1.heap.size + 1, 1, none⟩ = some (.string ⟨#[]⟩) := (K2.out.cell 1).trans rfl; have pc2 : w2.cell? ⟨w1.heap.size + 1, 2, none⟩ = some (.int .i64 sd) := (K2.out.cell 2).trans rfl; have pc3 : w2.cell? ⟨w1.heap.size + 1, 3, none⟩ = some (.slice none 0 0) := (K2.out.cell 3).trans rfl; have pf : ∀ j, w2.frozen? ⟨w1.heap.size + 1, j, none⟩ = false := K2.out.frozen; clear x2 b2)
                  | (go_at_call 139; have SC := (fun W => side_any t.text W); rw [← HSd.out] at SC; refine (SC _).mono ?_; rintro e wz ⟨rfl, rfl⟩; clear SC)
                  | (go_at_call 29; refine (X0.out.peek hT).mono ?_; rintro e w1 ⟨he, x1, b1⟩; rw [← HTk.out] at he; simp only [tokCells] at he; subst he; have c1 := x1.c1; have cf := x1.cf; have hz1 := x1.lt; have hne1 : ¬ M.P = w1.heap.size := (by omega); have hne2 : ¬ w1.heap.size = M.P := (by omega); have hne3 : ¬ M.P = w1.heap.size + 1 := (by omega); have hne4 : ¬ w1.heap.size + 1 = M.P := (by omega); have Y1 := x1.next hp2; have YA := Y1.alloc (.cells (tokCells t) 73); have X1 := Lib.hid (YA.alloc (.cells #[.int .i64 0, .string ⟨#[]⟩, .int .i64 sd, .slice none 0 0] 49)); have zq : (w1.setCell ⟨M.P, 1, none⟩ (.int .i64 ((S.pos : Int) + 1))).heap.size = w1.heap.size := (by simp); have l1 := (Loc.new Y1.at_ (.cells (tokCells t) 73)).alloc (.cells #[.int .i64 0, .string ⟨#[]⟩, .int .i64 sd, .slice none 0 0] 49); have m1 := Loc.new YA.at_ (.cells #[.int .i64 0, .string ⟨#[]⟩, .int .i64 sd, .slice none 0 0] 49); rw [World.size_alloc, zq] at m1; rw [zq] at l1; have L1 := Lib.hid l1; have K1 := Lib.hid m1; have hgw := x1.kept.size; clear x1 b1 Y1 YA zq l1 m1))
                go_ret
                have eR := HR.out
                subst eR
                exact PAns.done XP.out
              | false =>
                rw [if_neg (by rw [n2]; decide)] at hR
                cases n3 : isT ts (on (on S)) 3 [99, 97, 112] with
                | true =>
                  rw [if_pos n3] at hR
                  have HR := Lib.hid hR
                  have hp4 : (on (on S)).pos + 1 < ts.length := pos_next hT hp3 (by rw [isT_kind n3]; decide)
                  clear hR
                  go_enter Tryz.func127, Tryz.ntmps127
                  go_wp2_with (first
                    | (go_at_call 68; have PC := X10.out.put0 hT S.pos 18 s sd QQ OO; rw [HPl.out] at PC; refine PC.mono ?_; rintro e wp ⟨rfl, Mp, xp, _⟩; have XP := Lib.hid xp; clear xp PC)
                    | (go_at_call 113; refine ansU (X9.out.mark hT ⟨#[41]⟩) (fun f wz (hr : markP ts [41] S9 = .error f) hB => by (have eR := HR9.out; rw [hr, then_errE] at eR; subst eR; exact ⟨rfl, rfl, hB⟩)) (fun S10 M10 w10 (hr10 : markP ts [41] S9 = .ok S10) x10 k10 => ?_); have X10 := Lib.hid x10; have e10 := HR9.out; rw [hr10, then_okE] at e10; have HR10 := Lib.hid e10; have QQ : S10.parts.length + 1 ≤ S10.pos := (by rw [mark_fair hr10]; have := X9.out.at_.small; simp only [on]; omega); have OO : S10.offs.length + 1 ≤ S10.pos := (by rw [mark_fair hr10]; have := X9.out.at_.osmall; simp only [on]; omega); clear hr10; have L10 := Lib.hid (L9.out.step k10); have K10 := Lib.hid (K9.out.step k10); have c1 := X10.out.c1; have cf := X10.out.cf; have hzz := X10.out.lt; have tc3 : w10.cell? ⟨w1.heap.size, 3, none⟩ = some (.int .i64 (t.at_ : Nat)) := (L10.out.cell 3).trans rfl; have pc0 : w10.cell? ⟨w1.heap.size + 1, 0, none⟩ = some (.int .i64 18) := (K10.out.cell 0).trans rfl; have pc1 : w10.cell? ⟨w1.heap.size + 1, 1, none⟩ = some (.string ⟨s.toArray⟩) := (K10.out.cell 1).trans rfl; have pc2 : w10.cell? ⟨w1.heap.size + 1, 2, none⟩ = some (.int .i64 sd) := (K10.out.cell 2).trans rfl; have pc3 : w10.cell? ⟨w1.heap.size + 1, 3, none⟩ = some (.slice none 0 0) := (K10.out.cell 3).trans rfl; have pf : ∀ j, w10.frozen? ⟨w1.heap.size + 1, j, none⟩ = false := K10.out.frozen; clear x10 e10 k10)
                    | (go_at_call 115; refine ans (X8.out.text hT) (fun f wz (hr : textP ts S8 = .error f) hB => by (have eR := HR8.out; rw [hr, bind_errE] at eR; subst eR; exact ⟨rfl, rfl, hB⟩)) (fun s S9 M9 w9 (hr9 : textP ts S8 = .ok (s, S9)) x9 k9 => ?_); have X9 := Lib.hid x9; have e9 := HR8.out; rw [hr9, bind_okE] at e9; have HR9 := Lib.hid e9; clear hr9; have l9 := L8.out.step k9; have m9 := K8.out.step k9; have L9 := Lib.hid l9; have K9 := Lib.hid m9; have c1 := X9.out.c1; have cf := X9.out.cf; have hzz := X9.out.lt; have tc3 : w9.cell? ⟨w1.heap.size, 3, none⟩ = some (.int .i64 (t.at_ : Nat)) := (L9.out.cell 3).trans rfl; have pc0 : w9.cell? ⟨w1.heap.size + 1, 0, none⟩ = some (.int .i64 18) := (K9.out.cell 0).trans rfl; have pc1 : w9.cell? ⟨w1.heap.size + 1, 1, none⟩ = some (.string ⟨#[]⟩) := (K9.out.cell 1).trans rfl; have pc2 : w9.cell? ⟨w1.heap.size + 1, 2, none⟩ = some (.int .i64 sd) := (K9.out.cell 2).trans rfl; have pc3 : w9.cell? ⟨w1.heap.size + 1, 3, none⟩ = some (.slice none 0 0) := (K9.out.cell 3).trans rfl; have pf : ∀ j, w9.frozen? ⟨w1.heap.size + 1, j, none⟩ = false := K9.out.frozen; have X9 := Lib.hid (X9.out.poke m9 (by omega) 1 (.string ⟨s.toArray⟩)); have L9 := Lib.hid (l9.other (g2 := w1.heap.size + 1) (by omega) 1 (.string ⟨s.toArray⟩)); have K9 := Lib.hid (m9.poke 1 (.string ⟨s.toArray⟩)); clear l9 m9; clear x9 e9 k9)
                    | (go_at_call 113; refine ansU (X7.out.mark hT ⟨#[40]⟩) (fun f wz (hr : markP ts [40] (on (on (on S))) = .error f) hB => by (have eR := HR7.out; rw [hr, then_errE] at eR; subst eR; exact ⟨rfl, rfl, hB⟩)) (fun S8 M8 w8 (hr8 : markP ts [40] (on (on (on S))) = .ok S8) x8 k8 => ?_); have X8 := Lib.hid x8; have e8 := HR7.out; rw [hr8, then_okE] at e8; have HR8 := Lib.hid e8; clear hr8; have L8 := Lib.hid (L7.out.step k8); have K8 := Lib.hid (K7.out.step k8); clear x8 e8 k8)
                    | (go_at_call 67; refine (X6.out.is hT 3 ⟨#[99, 97, 112]⟩).mono ?_; rintro e w7 ⟨he, x7, b7⟩; rw [show isT ts _ 3 (⟨#[99, 97, 112]⟩ : ByteArray).data.toList = true from n3] at he; subst he; have X7 := Lib.hid x7; have L7 := Lib.hid (L6.out.below b7); have K7 := Lib.hid (K6.out.below b7); have c1 := X7.out.c1; have cf := X7.out.cf; have hzz := X7.out.lt; have tc3 : w7.cell? ⟨w1.heap.size, 3, none⟩ = some (.int .i64 (t.at_ : Nat)) := (L7.out.cell 3).trans rfl; have pc0 : w7.cell? ⟨w1.heap.size + 1, 0, none⟩ = some (.int .i64 0) := (K7.out.cell 0).trans rfl; have pc1 : w7.cell? ⟨w1.heap.size + 1, 1, none⟩ = some (.string ⟨#[]⟩) := (K7.out.cell 1).trans rfl; have pc2 : w7.cell? ⟨w1.heap.size + 1, 2, none⟩ = some (.int .i64 sd) := (K7.out.cell 2).trans rfl; have pc3 : w7.cell? ⟨w1.heap.size + 1, 3, none⟩ = some (.slice none 0 0) := (K7.out.cell 3).trans rfl; have pf : ∀ j, w7.frozen? ⟨w1.heap.size + 1, j, none⟩ = false := K7.out.frozen; have x9 := X7.out; have l9 := L7.out; have m9 := K7.out; have y9 := x9.poke m9 (by omega) 0 (.int .i64 18); have X7 := Lib.hid (y9.next hp4); have L7 := Lib.hid ((l9.other (g2 := w1.heap.size + 1) (by omega) 0 (.int .i64 18)).other (g2 := M.P) hne1 1 (.int .i64 (((on (on S)).pos : Int) + 1))); have K7 := Lib.hid ((m9.poke 0 (.int .i64 18)).other (g2 := M.P) hne3 1 (.int .i64 (((on (on S)).pos : Int) + 1))); clear x9 l9 m9 y9; have HR7 := Lib.hid HR.out; clear x7 b7)
                    | (go_at_call 67; refine (X5.out.is hT 3 ⟨#[116, 97, 105, 110, 116, 115]⟩).mono ?_; rintro e w6 ⟨he, x6, b6⟩; rw [show isT ts _ 3 (⟨#[116, 97, 105, 110, 116, 115]⟩ : ByteArray).data.toList = false from n2] at he; subst he; have X6 := Lib.hid x6; have L6 := Lib.hid (L5.out.below b6); have K6 := Lib.hid (K5.out.below b6); have c1 := X6.out.c1; have cf := X6.out.cf; have hzz := X6.out.lt; have tc3 : w6.cell? ⟨w1.heap.size, 3, none⟩ = some (.int .i64 (t.at_ : Nat)) := (L6.out.cell 3).trans rfl; have pc0 : w6.cell? ⟨w1.heap.size + 1, 0, none⟩ = some (.int .i64 0) := (K6.out.cell 0).trans rfl; have pc1 : w6.cell? ⟨w1.heap.size + 1, 1, none⟩ = some (.string ⟨#[]⟩) := (K6.out.cell 1).trans rfl; have pc2 : w6.cell? ⟨w1.heap.size + 1, 2, none⟩ = some (.int .i64 sd) := (K6.out.cell 2).trans rfl; have pc3 : w6.cell? ⟨w1.heap.size + 1, 3, none⟩ = some (.slice none 0 0) := (K6.out.cell 3).trans rfl; have pf : ∀ j, w6.frozen? ⟨w1.heap.size + 1, j, none⟩ = false := K6.out.frozen; clear x6 b6)
                    | (go_at_call 67; refine (X4.out.is hT 3 ⟨#[107, 101, 121, 115]⟩).mono ?_; rintro e w5 ⟨he, x5, b5⟩; rw [show isT ts _ 3 (⟨#[107, 101, 121, 115]⟩ : ByteArray).data.toList = false from n1] at he; subst he; have X5 := Lib.hid x5; have L5 := Lib.hid (L4.out.below b5); have K5 := Lib.hid (K4.out.below b5); have c1 := X5.out.c1; have cf := X5.out.cf; have hzz := X5.out.lt; have tc3 : w5.cell? ⟨w1.heap.size, 3, none⟩ = some (.int .i64 (t.at_ : Nat)) := (L5.out.cell 3).trans rfl; have pc0 : w5.cell? ⟨w1.heap.size + 1, 0, none⟩ = some (.int .i64 0) := (K5.out.cell 0).trans rfl; have pc1 : w5.cell? ⟨w1.heap.size + 1, 1, none⟩ = some (.string ⟨#[]⟩) := (K5.out.cell 1).trans rfl; have pc2 : w5.cell? ⟨w1.heap.size + 1, 2, none⟩ = some (.int .i64 sd) := (K5.out.cell 2).trans rfl; have pc3 : w5.cell? ⟨w1.heap.size + 1, 3, none⟩ = some (.slice none 0 0) := (K5.out.cell 3).trans rfl; have pf : ∀ j, w5.frozen? ⟨w1.heap.size + 1, j, none⟩ = false := K5.out.frozen; clear x5 b5)
                    | (go_at_call 67; refine (X3.out.is hT 3 ⟨#[110, 97, 109, 101]⟩).mono ?_; rintro e w4 ⟨he, x4, b4⟩; rw [show isT ts _ 3 (⟨#[110, 97, 109, 101]⟩ : ByteArray).data.toList = false from n0] at he; subst he; have X4 := Lib.hid x4; have L4 := Lib.hid (L3.out.below b4); have K4 := Lib.hid (K3.out.below b4); have c1 := X4.out.c1; have cf := X4.out.cf; have hzz := X4.out.lt; have tc3 : w4.cell? ⟨w1.heap.size, 3, none⟩ = some (.int .i64 (t.at_ : Nat)) := (L4.out.cell 3).trans rfl; have pc0 : w4.cell? ⟨w1.heap.size + 1, 0, none⟩ = some (.int .i64 0) := (K4.out.cell 0).trans rfl; have pc1 : w4.cell? ⟨w1.heap.size + 1, 1, none⟩ = some (.string ⟨#[]⟩) := (K4.out.cell 1).trans rfl; have pc2 : w4.cell? ⟨w1.heap.size + 1, 2, none⟩ = some (.int .i64 sd) := (K4.out.cell 2).trans rfl; have pc3 : w4.cell? ⟨w1.heap.size + 1, 3, none⟩ = some (.slice none 0 0) := (K4.out.cell 3).trans rfl; have pf : ∀ j, w4.frozen? ⟨w1.heap.size + 1, j, none⟩ = false := K4.out.frozen; clear x4 b4)
                    | (go_at_call 67; refine (X2.out.is hT 4 ⟨#[46]⟩).mono ?_; rintro e w3 ⟨he, x3, b3⟩; rw [show isT ts _ 4 (⟨#[46]⟩ : ByteArray).data.toList = true from k2] at he; subst he; have X3 := Lib.hid x3; have L3 := Lib.hid (L2.out.below b3); have K3 := Lib.hid (K2.out.below b3); have c1 := X3.out.c1; have cf := X3.out.cf; have hzz := X3.out.lt; have tc3 : w3.cell? ⟨w1.heap.size, 3, none⟩ = some (.int .i64 (t.at_ : Nat)) := (L3.out.cell 3).trans rfl; have pc0 : w3.cell? ⟨w1.heap.size + 1, 0, none⟩ = some (.int .i64 0) := (K3.out.cell 0).trans rfl; have pc1 : w3.cell? ⟨w1.heap.size + 1, 1, none⟩ = some (.string ⟨#[]⟩) := (K3.out.cell 1).trans rfl; have pc2 : w3.cell? ⟨w1.heap.size + 1, 2, none⟩ = some (.int .i64 sd) := (K3.out.cell 2).trans rfl; have pc3 : w3.cell? ⟨w1.heap.size + 1, 3, none⟩ = some (.slice none 0 0) := (K3.out.cell 3).trans rfl; have pf : ∀ j, w3.frozen? ⟨w1.heap.size + 1, j, none⟩ = false := K3.out.frozen; have l9 := L3.out; have m9 := K3.out; have X3 := Lib.hid (X3.out.next hp3); have L3 := Lib.hid (l9.other (g2 := M.P) hne1 1 (.int .i64 (((on S).pos : Int) + 1))); have K3 := Lib.hid (m9.other (g2 := M.P) hne3 1 (.int .i64 (((on S).pos : Int) + 1))); clear l9 m9; clear x3 b3)
                    | (go_at_call 67; refine (X1.out.is hT 4 ⟨#[91]⟩).mono ?_; rintro e w2 ⟨he, x2, b2⟩; rw [show isT ts _ 4 (⟨#[91]⟩ : ByteArray).data.toList = false from k1] at he; subst he; have X2 := Lib.hid x2; have L2 := Lib.hid (L1.out.below b2); have K2 := Lib.hid (K1.out.below b2); have c1 := X2.out.c1; have cf := X2.out.cf; have hzz := X2.out.lt; have tc3 : w2.cell? ⟨w1.heap.size, 3, none⟩ = some (.int .i64 (t.at_ : Nat)) := (L2.out.cell 3).trans rfl; have pc0 : w2.cell? ⟨w1.heap.size + 1, 0, none⟩ = some (.int .i64 0) := (K2.out.cell 0).trans rfl; have pc1 : w2.cell? ⟨w1.heap.size + 1, 1, none⟩ = some (.string ⟨#[]⟩) := (K2.out.cell 1).trans rfl; have pc2 : w2.cell? ⟨w1.heap.size + 1, 2, none⟩ = some (.int .i64 sd) := (K2.out.cell 2).trans rfl; have pc3 : w2.cell? ⟨w1.heap.size + 1, 3, none⟩ = some (.slice none 0 0) := (K2.out.cell 3).trans rfl; have pf : ∀ j, w2.frozen? ⟨w1.heap.size + 1, j, none⟩ = false := K2.out.frozen; clear x2 b2)
                    | (go_at_call 139; have SC := (fun W => side_any t.text W); rw [← HSd.out] at SC; refine (SC _).mono ?_; rintro e wz ⟨rfl, rfl⟩; clear SC)
                    | (go_at_call 29; refine (X0.out.peek hT).mono ?_; rintro e w1 ⟨he, x1, b1⟩; rw [← HTk.out] at he; simp only [tokCells] at he; subst he; have c1 := x1.c1; have cf := x1.cf; have hz1 := x1.lt; have hne1 : ¬ M.P = w1.heap.size := (by omega); have hne2 : ¬ w1.heap.size = M.P := (by omega); have hne3 : ¬ M.P = w1.heap.size + 1 := (by omega); have hne4 : ¬ w1.heap.size + 1 = M.P := (by omega); have Y1 := x1.next hp2; have YA := Y1.alloc (.cells (tokCells t) 73); have X1 := Lib.hid (YA.alloc (.cells #[.int .i64 0, .string ⟨#[]⟩, .int .i64 sd, .slice none 0 0] 49)); have zq : (w1.setCell ⟨M.P, 1, none⟩ (.int .i64 ((S.pos : Int) + 1))).heap.size = w1.heap.size := (by simp); have l1 := (Loc.new Y1.at_ (.cells (tokCells t) 73)).alloc (.cells #[.int .i64 0, .string ⟨#[]⟩, .int .i64 sd, .slice none 0 0] 49); have m1 := Loc.new YA.at_ (.cells #[.int .i64 0, .string ⟨#[]⟩, .int .i64 sd, .slice none 0 0] 49); rw [World.size_alloc, zq] at m1; rw [zq] at l1; have L1 := Lib.hid l1; have K1 := Lib.hid m1; have hgw := x1.kept.size; clear x1 b1 Y1 YA zq l1 m1))
                  go_ret
                  have eR := HR10.out
                  subst eR
                  exact PAns.done XP.out
                | false =>
                  rw [if_neg (by rw [n3]; decide)] at hR
                  have HR := Lib.hid hR
                  clear hR
                  go_enter Tryz.func127, Tryz.ntmps127
                  go_wp2_with (first
                    | (go_at_call 30; refine (X7.out.wrong hT).mono ?_; rintro e w99 ⟨rfl, hB9⟩)
                    | (go_at_call 67; refine (X6.out.is hT 3 ⟨#[99, 97, 112]⟩).mono ?_; rintro e w7 ⟨he, x7, b7⟩; rw [show isT ts _ 3 (⟨#[99, 97, 112]⟩ : ByteArray).data.toList = false from n3] at he; subst he; have X7 := Lib.hid x7; have L7 := Lib.hid (L6.out.below b7); have K7 := Lib.hid (K6.out.below b7); have c1 := X7.out.c1; have cf := X7.out.cf; have hzz := X7.out.lt; have tc3 : w7.cell? ⟨w1.heap.size, 3, none⟩ = some (.int .i64 (t.at_ : Nat)) := (L7.out.cell 3).trans rfl; have pc0 : w7.cell? ⟨w1.heap.size + 1, 0, none⟩ = some (.int .i64 0) := (K7.out.cell 0).trans rfl; have pc1 : w7.cell? ⟨w1.heap.size + 1, 1, none⟩ = some (.string ⟨#[]⟩) := (K7.out.cell 1).trans rfl; have pc2 : w7.cell? ⟨w1.heap.size + 1, 2, none⟩ = some (.int .i64 sd) := (K7.out.cell 2).trans rfl; have pc3 : w7.cell? ⟨w1.heap.size + 1, 3, none⟩ = some (.slice none 0 0) := (K7.out.cell 3).trans rfl; have pf : ∀ j, w7.frozen? ⟨w1.heap.size + 1, j, none⟩ = false := K7.out.frozen; clear x7 b7)
                    | (go_at_call 67; refine (X5.out.is hT 3 ⟨#[116, 97, 105, 110, 116, 115]⟩).mono ?_; rintro e w6 ⟨he, x6, b6⟩; rw [show isT ts _ 3 (⟨#[116, 97, 105, 110, 116, 115]⟩ : ByteArray).data.toList = false from n2] at he; subst he; have X6 := Lib.hid x6; have L6 := Lib.hid (L5.out.below b6); have K6 := Lib.hid (K5.out.below b6); have c1 := X6.out.c1; have cf := X6.out.cf; have hzz := X6.out.lt; have tc3 : w6.cell? ⟨w1.heap.size, 3, none⟩ = some (.int .i64 (t.at_ : Nat)) := (L6.out.cell 3).trans rfl; have pc0 : w6.cell? ⟨w1.heap.size + 1, 0, none⟩ = some (.int .i64 0) := (K6.out.cell 0).trans rfl; have pc1 : w6.cell? ⟨w1.heap.size + 1, 1, none⟩ = some (.string ⟨#[]⟩) := (K6.out.cell 1).trans rfl; have pc2 : w6.cell? ⟨w1.heap.size + 1, 2, none⟩ = some (.int .i64 sd) := (K6.out.cell 2).trans rfl; have pc3 : w6.cell? ⟨w1.heap.size + 1, 3, none⟩ = some (.slice none 0 0) := (K6.out.cell 3).trans rfl; have pf : ∀ j, w6.frozen? ⟨w1.heap.size + 1, j, none⟩ = false := K6.out.frozen; clear x6 b6)
                    | (go_at_call 67; refine (X4.out.is hT 3 ⟨#[107, 101, 121, 115]⟩).mono ?_; rintro e w5 ⟨he, x5, b5⟩; rw [show isT ts _ 3 (⟨#[107, 101, 121, 115]⟩ : ByteArray).data.toList = false from n1] at he; subst he; have X5 := Lib.hid x5; have L5 := Lib.hid (L4.out.below b5); have K5 := Lib.hid (K4.out.below b5); have c1 := X5.out.c1; have cf := X5.out.cf; have hzz := X5.out.lt; have tc3 : w5.cell? ⟨w1.heap.size, 3, none⟩ = some (.int .i64 (t.at_ : Nat)) := (L5.out.cell 3).trans rfl; have pc0 : w5.cell? ⟨w1.heap.size + 1, 0, none⟩ = some (.int .i64 0) := (K5.out.cell 0).trans rfl; have pc1 : w5.cell? ⟨w1.heap.size + 1, 1, none⟩ = some (.string ⟨#[]⟩) := (K5.out.cell 1).trans rfl; have pc2 : w5.cell? ⟨w1.heap.size + 1, 2, none⟩ = some (.int .i64 sd) := (K5.out.cell 2).trans rfl; have pc3 : w5.cell? ⟨w1.heap.size + 1, 3, none⟩ = some (.slice none 0 0) := (K5.out.cell 3).trans rfl; have pf : ∀ j, w5.frozen? ⟨w1.heap.size + 1, j, none⟩ = false := K5.out.frozen; clear x5 b5)
                    | (go_at_call 67; refine (X3.out.is hT 3 ⟨#[110, 97, 109, 101]⟩).mono ?_; rintro e w4 ⟨he, x4, b4⟩; rw [show isT ts _ 3 (⟨#[110, 97, 109, 101]⟩ : ByteArray).data.toList = false from n0] at he; subst he; have X4 := Lib.hid x4; have L4 := Lib.hid (L3.out.below b4); have K4 := Lib.hid (K3.out.below b4); have c1 := X4.out.c1; have cf := X4.out.cf; have hzz := X4.out.lt; have tc3 : w4.cell? ⟨w1.heap.size, 3, none⟩ = some (.int .i64 (t.at_ : Nat)) := (L4.out.cell 3).trans rfl; have pc0 : w4.cell? ⟨w1.heap.size + 1, 0, none⟩ = some (.int .i64 0) := (K4.out.cell 0).trans rfl; have pc1 : w4.cell? ⟨w1.heap.size + 1, 1, none⟩ = some (.string ⟨#[]⟩) := (K4.out.cell 1).trans rfl; have pc2 : w4.cell? ⟨w1.heap.size + 1, 2, none⟩ = some (.int .i64 sd) := (K4.out.cell 2).trans rfl; have pc3 : w4.cell? ⟨w1.heap.size + 1, 3, none⟩ = some (.slice none 0 0) := (K4.out.cell 3).trans rfl; have pf : ∀ j, w4.frozen? ⟨w1.heap.size + 1, j, none⟩ = false := K4.out.frozen; clear x4 b4)
                    | (go_at_call 67; refine (X2.out.is hT 4 ⟨#[46]⟩).mono ?_; rintro e w3 ⟨he, x3, b3⟩; rw [show isT ts _ 4 (⟨#[46]⟩ : ByteArray).data.toList = true from k2] at he; subst he; have X3 := Lib.hid x3; have L3 := Lib.hid (L2.out.below b3); have K3 := Lib.hid (K2.out.below b3); have c1 := X3.out.c1; have cf := X3.out.cf; have hzz := X3.out.lt; have tc3 : w3.cell? ⟨w1.heap.size, 3, none⟩ = some (.int .i64 (t.at_ : Nat)) := (L3.out.cell 3).trans rfl; have pc0 : w3.cell? ⟨w1.heap.size + 1, 0, none⟩ = some (.int .i64 0) := (K3.out.cell 0).trans rfl; have pc1 : w3.cell? ⟨w1.heap.size + 1, 1, none⟩ = some (.string ⟨#[]⟩) := (K3.out.cell 1).trans rfl; have pc2 : w3.cell? ⟨w1.heap.size + 1, 2, none⟩ = some (.int .i64 sd) := (K3.out.cell 2).trans rfl; have pc3 : w3.cell? ⟨w1.heap.size + 1, 3, none⟩ = some (.slice none 0 0) := (K3.out.cell 3).trans rfl; have pf : ∀ j, w3.frozen? ⟨w1.heap.size + 1, j, none⟩ = false := K3.out.frozen; have l9 := L3.out; have m9 := K3.out; have X3 := Lib.hid (X3.out.next hp3); have L3 := Lib.hid (l9.other (g2 := M.P) hne1 1 (.int .i64 (((on S).pos : Int) + 1))); have K3 := Lib.hid (m9.other (g2 := M.P) hne3 1 (.int .i64 (((on S).pos : Int) + 1))); clear l9 m9; clear x3 b3)
                    | (go_at_call 67; refine (X1.out.is hT 4 ⟨#[91]⟩).mono ?_; rintro e w2 ⟨he, x2, b2⟩; rw [show isT ts _ 4 (⟨#[91]⟩ : ByteArray).data.toList = false from k1] at he; subst he; have X2 := Lib.hid x2; have L2 := Lib.hid (L1.out.below b2); have K2 := Lib.hid (K1.out.below b2); have c1 := X2.out.c1; have cf := X2.out.cf; have hzz := X2.out.lt; have tc3 : w2.cell? ⟨w1.heap.size, 3, none⟩ = some (.int .i64 (t.at_ : Nat)) := (L2.out.cell 3).trans rfl; have pc0 : w2.cell? ⟨w1.heap.size + 1, 0, none⟩ = some (.int .i64 0) := (K2.out.cell 0).trans rfl; have pc1 : w2.cell? ⟨w1.heap.size + 1, 1, none⟩ = some (.string ⟨#[]⟩) := (K2.out.cell 1).trans rfl; have pc2 : w2.cell? ⟨w1.heap.size + 1, 2, none⟩ = some (.int .i64 sd) := (K2.out.cell 2).trans rfl; have pc3 : w2.cell? ⟨w1.heap.size + 1, 3, none⟩ = some (.slice none 0 0) := (K2.out.cell 3).trans rfl; have pf : ∀ j, w2.frozen? ⟨w1.heap.size + 1, j, none⟩ = false := K2.out.frozen; clear x2 b2)
                    | (go_at_call 139; have SC := (fun W => side_any t.text W); rw [← HSd.out] at SC; refine (SC _).mono ?_; rintro e wz ⟨rfl, rfl⟩; clear SC)
                    | (go_at_call 29; refine (X0.out.peek hT).mono ?_; rintro e w1 ⟨he, x1, b1⟩; rw [← HTk.out] at he; simp only [tokCells] at he; subst he; have c1 := x1.c1; have cf := x1.cf; have hz1 := x1.lt; have hne1 : ¬ M.P = w1.heap.size := (by omega); have hne2 : ¬ w1.heap.size = M.P := (by omega); have hne3 : ¬ M.P = w1.heap.size + 1 := (by omega); have hne4 : ¬ w1.heap.size + 1 = M.P := (by omega); have Y1 := x1.next hp2; have YA := Y1.alloc (.cells (tokCells t) 73); have X1 := Lib.hid (YA.alloc (.cells #[.int .i64 0, .string ⟨#[]⟩, .int .i64 sd, .slice none 0 0] 49)); have zq : (w1.setCell ⟨M.P, 1, none⟩ (.int .i64 ((S.pos : Int) + 1))).heap.size = w1.heap.size := (by simp); have l1 := (Loc.new Y1.at_ (.cells (tokCells t) 73)).alloc (.cells #[.int .i64 0, .string ⟨#[]⟩, .int .i64 sd, .slice none 0 0] 49); have m1 := Loc.new YA.at_ (.cells #[.int .i64 0, .string ⟨#[]⟩, .int .i64 sd, .slice none 0 0] 49); rw [World.size_alloc, zq] at m1; rw [zq] at l1; have L1 := Lib.hid l1; have K1 := Lib.hid m1; have hgw := x1.kept.size; clear x1 b1 Y1 YA zq l1 m1))
                  have eR := HR.out
                  subst eR
                  exact ⟨rfl, rfl, hB9⟩
  · rw [if_pos (.inl h3)] at hR
    have q3 : (t.kind != 3) = true := by rw [bne_iff_ne]; exact h3
    have HR := Lib.hid hR
    clear hR ht h3 hsr
    go_enter Tryz.func127, Tryz.ntmps127
    go_wp2_with (first
      | (go_at_call 30; refine (X1.out.wrong hT).mono ?_; rintro e w99 ⟨rfl, hB9⟩)
      | (go_at_call 139; have SC := (fun W => side_any t.text W); rw [← HSd.out] at SC; refine (SC _).mono ?_; rintro e wz ⟨rfl, rfl⟩; clear SC)
      | (go_at_call 29; refine (X0.out.peek hT).mono ?_; rintro e w1 ⟨he, x1, b1⟩; rw [← HTk.out] at he; simp only [tokCells] at he; subst he; have X1 := Lib.hid (x1.alloc (.cells (tokCells t) 73)); clear x1 b1))
    have eR := HR.out
    subst eR
    exact ⟨rfl, rfl, hB9⟩

end Go.Proofs.YtfiljgkcipnghaaGreatDoor.X
set_option linter.unusedVariables false
set_option linter.unusedSimpArgs false
namespace Go.Proofs.YtfiljgkcipnghaaGreatDoor.X
open Go.RowKit
set_option maxHeartbeats 8000000 in
set_option maxRecDepth 100000 in
theorem term_any {ts : List Tk} (hT : TOK ts) {n : Nat} (hn : n ≤ 32) {lo : Lv} (hlo : n < 32 → LvOK ts (n + 1) lo) (hlf : LvFair lo) (hset : PFun ts 126 n (setP ts)) (hown : PFun ts 127 n (ownedP ts)) : PFun ts 116 n (termP ts lo) := by
  intro B M S w h hS
  obtain ⟨R, hR⟩ : ∃ R, R = termP ts lo S := ⟨_, rfl⟩
  rw [← hR]
  unfold termP at hR
  obtain ⟨t, ht⟩ : ∃ t, t = pk ts S := ⟨_, rfl⟩
  have HTk := Lib.hid ht
  have HPl : Hid (placeT ts S.pos = t.at_) := Lib.hid (by rw [ht]; rfl)
  have hpl := hT.len
  have h0 := h.pos
  have hsm := h.small
  have hos := h.osmall
  have X0 := Lib.hid (Stp.start h)
  have hbw := h.bsize
  have tf := tokField
  have hnS : S.nest ≤ 32 := by omega
  rw [← ht] at hR
  simp only at hR
  clear h
  by_cases h1 : t.kind = 1
  · rw [if_pos h1] at hR
    have q1 : (t.kind == 1) = true := by simpa using h1
    have hp2 := pos_next hT h0 (by rw [← ht, h1]; decide)
    have HE := Lib.hid hR
    clear hR ht h1
    go_enter Tryz.func116, Tryz.ntmps116
    go_wp2_with (first
      | (go_at_call 68; have PC := X1.out.put0 hT S.pos 11 t.text 0 (by simp only [on]; omega) (by simp only [on]; omega); rw [HPl.out] at PC; refine PC.mono ?_; rintro e wp ⟨rfl, Mp, xp, _⟩; have XP := Lib.hid xp; clear xp PC)
      | (go_at_call 29; refine (X0.out.peek hT).mono ?_; rintro e w1 ⟨he, x1, b1⟩; rw [← HTk.out] at he; simp only [tokCells] at he; subst he; have c1 := x1.c1; have cf := x1.cf; have hz1 := x1.lt; have hne1 : ¬ M.P = w1.heap.size := (by omega); have hne2 : ¬ w1.heap.size = M.P := (by omega); have X1 := Lib.hid ((x1.next hp2).alloc (.cells (tokCells t) 73)); clear x1 b1))
    go_ret
    have eR := HE.out
    subst eR
    exact PAns.done XP.out
  · rw [if_neg h1] at hR
    have q1 : (t.kind == 1) = false := by simpa using h1
    by_cases h2 : t.kind = 2
    · rw [if_pos h2] at hR
      have q2 : (t.kind == 2) = true := by simpa using h2
      have hp2 := pos_next hT h0 (by rw [← ht, h2]; decide)
      have HE := Lib.hid hR
      clear hR ht h1 h2
      go_enter Tryz.func116, Tryz.ntmps116
      go_wp2_with (first
        | (go_at_call 68; have PC := X1.out.put0 hT S.pos 12 [] t.num (by simp only [on]; omega) (by simp only [on]; omega); rw [HPl.out] at PC; refine PC.mono ?_; rintro e wp ⟨rfl, Mp, xp, _⟩; have XP := Lib.hid xp; clear xp PC)
        | (go_at_call 29; refine (X0.out.peek hT).mono ?_; rintro e w1 ⟨he, x1, b1⟩; rw [← HTk.out] at he; simp only [tokCells] at he; subst he; have c1 := x1.c1; have cf := x1.cf; have hz1 := x1.lt; have hne1 : ¬ M.P = w1.heap.size := (by omega); have hne2 : ¬ w1.heap.size = M.P := (by omega); have X1 := Lib.hid ((x1.next hp2).alloc (.cells (tokCells t) 73)); clear x1 b1))
      go_ret
      have eR := HE.out
      subst eR
      exact PAns.done XP.out
    · rw [if_neg h2] at hR
      have q2 : (t.kind == 2) = false := by simpa using h2
      clear h1 h2
      cases h3 : isT ts S 4 [123] with
      | true =>
        rw [if_pos h3] at hR
        have HR := Lib.hid hR
        clear hR ht
        go_enter Tryz.func116, Tryz.ntmps116
        go_wp2_with (first
          | (go_at_call 126; refine ans (X2.out.fn hset hS) (fun f wz (hr : setP ts S = .error f) hB => by (have eR := HR.out; rw [hr] at eR; subst eR; exact ⟨rfl, rfl, hB⟩)) (fun kid Sz Mz wz (hr : setP ts S = .ok (kid, Sz)) xz kz => ?_); have XZ := Lib.hid xz; have ez := HR.out; rw [hr] at ez; have HE := Lib.hid ez; clear xz ez hr kz)
          | (go_at_call 67; refine (X1.out.is hT 4 ⟨#[123]⟩).mono ?_; rintro e w2 ⟨he, x2, b2⟩; rw [show isT ts _ 4 (⟨#[123]⟩ : ByteArray).data.toList = true from h3] at he; subst he; have X2 := Lib.hid x2; have L2 := Lib.hid (L1.out.below b2); clear x2 b2)
          | (go_at_call 29; refine (X0.out.peek hT).mono ?_; rintro e w1 ⟨he, x1, b1⟩; rw [← HTk.out] at he; simp only [tokCells] at he; subst he; have c1 := x1.c1; have cf := x1.cf; have hz1 := x1.lt; have hne1 : ¬ M.P = w1.heap.size := (by omega); have hne2 : ¬ w1.heap.size = M.P := (by omega); have X1 := Lib.hid (x1.alloc (.cells (tokCells t) 73)); have L1 := Lib.hid (Loc.new x1.at_ (.cells (tokCells t) 73)); clear x1 b1))
        go_ret
        have eR := HE.out
        subst eR
        exact PAns.done XZ.out
      | false =>
        rw [if_neg (by rw [h3]; decide)] at hR
        cases h4 : isT ts S 3 [105, 110, 116] with
        | true =>
          rw [if_pos h4] at hR
          have hp2 := pos_next hT h0 (by rw [isT_kind h4]; decide)
          have HR4 := Lib.hid hR
          clear hR ht
          go_enter Tryz.func116, Tryz.ntmps116
          go_wp2_with (first
            | (go_at_call 68; have PC := X7.out.putK hT S.pos 19 [] 0 [kid] #[.int .i64 (kid : Nat)] 1 _ rfl rfl rfl (by simp) Q7 O7; rw [HPl.out] at PC; refine PC.mono ?_; rintro e wp ⟨rfl, Mp, xp⟩; have XP := Lib.hid xp; clear xp PC)
            | (go_at_call 97; refine ansU (X6.out.shut hT (by omega) (by omega)) (fun f wz (hr : shutP ts S6 = .error f) hB => by (have eR := HR6.out; rw [hr, then_errE] at eR; subst eR; exact ⟨rfl, rfl, hB⟩)) (fun S7 M7 w7 (hr7 : shutP ts S6 = .ok S7) x7 k7 => ?_); have X7 := Lib.hid x7; have e7 := HR6.out; rw [hr7, then_okE] at e7; have HR7 := Lib.hid e7; have Q7 : S7.parts.length + 1 ≤ S7.pos := (by rw [shut_fair hr7]; have := X6.out.at_.small; simp only [on, closeN]; omega); have O7 : S7.offs.length + 1 ≤ S7.pos := (by rw [shut_fair hr7]; have := X6.out.at_.osmall; simp only [on, closeN]; omega); clear hr7; have tc : w7.cell? ⟨w1.heap.size, 3, none⟩ = some (.int .i64 (t.at_ : Nat)) := ((L6.out.step k7).cell 3).trans rfl; clear x7 e7 k7)
            | (go_at_call 116; refine ans (X5.out.fn HL.out.term N5) (fun f wz (hr : lo.term S5 = .error f) hB => by (have eR := HR5.out; rw [hr, bind_errE] at eR; subst eR; exact ⟨rfl, rfl, hB⟩)) (fun kid S6 M6 w6 (hr6 : lo.term S5 = .ok (kid, S6)) x6 k6 => ?_); have X6 := Lib.hid x6; have e6 := HR5.out; rw [hr6, bind_okE] at e6; have HR6 := Lib.hid e6; have N6 : S6.nest = n + 1 := (hlf.term _ _ _ hr6).nest.trans N5; clear hr6; have L6 := Lib.hid (L5.out.step k6); clear x6 e6 k6)
            | (go_at_call 96; refine ansU (X4.out.open hT hnS ⟨#[40]⟩) (fun f wz (hr : openP ts [40] (on S) = .error f) hB => by (have eR := HR4.out; rw [hr, then_errE] at eR; subst eR; exact ⟨rfl, rfl, hB⟩)) (fun S5 M5 w5 (hr5 : openP ts [40] (on S) = .ok S5) x5 k5 => ?_); have X5 := Lib.hid x5; have e5 := HR4.out; rw [hr5, then_okE] at e5; have HR5 := Lib.hid e5; have hn33 : n + 1 ≤ 32 := (by have := (open_fair hr5).2; simp only [on] at this; omega); have HL := Lib.hid (hlo (by omega)); have N5 : S5.nest = n + 1 := (by rw [(open_fair hr5).1]; simp only [on]; omega); clear hr5; have L5 := Lib.hid (L4.out.step k5); clear x5 e5 k5)
            | (go_at_call 67; refine (X2.out.is hT 3 ⟨#[105, 110, 116]⟩).mono ?_; rintro e w3 ⟨he, x3, b3⟩; rw [show isT ts _ 3 (⟨#[105, 110, 116]⟩ : ByteArray).data.toList = true from h4] at he; subst he; have X3 := Lib.hid x3; have L3 := Lib.hid (L2.out.below b3); have c1 := x3.c1; have cf := x3.cf; have X4 := Lib.hid (x3.next hp2); have L4 := Lib.hid (L3.out.other (g2 := M.P) hne1 1 (.int .i64 ((S.pos : Int) + 1))); clear x3 b3)
            | (go_at_call 67; refine (X1.out.is hT 4 ⟨#[123]⟩).mono ?_; rintro e w2 ⟨he, x2, b2⟩; rw [show isT ts _ 4 (⟨#[123]⟩ : ByteArray).data.toList = false from h3] at he; subst he; have X2 := Lib.hid x2; have L2 := Lib.hid (L1.out.below b2); clear x2 b2)
            | (go_at_call 29; refine (X0.out.peek hT).mono ?_; rintro e w1 ⟨he, x1, b1⟩; rw [← HTk.out] at he; simp only [tokCells] at he; subst he; have c1 := x1.c1; have cf := x1.cf; have hz1 := x1.lt; have hne1 : ¬ M.P = w1.heap.size := (by omega); have hne2 : ¬ w1.heap.size = M.P := (by omega); have X1 := Lib.hid (x1.alloc (.cells (tokCells t) 73)); have L1 := Lib.hid (Loc.new x1.at_ (.cells (tokCells t) 73)); clear x1 b1))
          go_ret
          have eR := HR7.out
          subst eR
          exact PAns.done XP.out
        | false =>
          rw [if_neg (by rw [h4]; decide)] at hR
          cases h5 : isT ts S 3 [99, 111, 117, 110, 116] with
          | true =>
            rw [if_pos h5] at hR
            have hp2 := pos_next hT h0 (by rw [isT_kind h5]; decide)
            have HR := Lib.hid hR
            clear hR ht
            go_enter Tryz.func116, Tryz.ntmps116
            go_wp2_with (first
              | (go_at_call 114; refine ans ((scoped_any hT hn hlo hlf X4.out.at_ hS hp2 20).mono (fun e w' h => PAns.base X4.out h)) (fun f wz (hr : scopedP ts lo 20 S = .error f) hB => by (have eR := HR.out; rw [hr] at eR; subst eR; exact ⟨rfl, rfl, hB⟩)) (fun kid Sz Mz wz (hr : scopedP ts lo 20 S = .ok (kid, Sz)) xz kz => ?_); have XZ := Lib.hid xz; have ez := HR.out; rw [hr] at ez; have HE := Lib.hid ez; clear xz ez hr kz)
              | (go_at_call 67; refine (X3.out.is hT 3 ⟨#[99, 111, 117, 110, 116]⟩).mono ?_; rintro e w4 ⟨he, x4, b4⟩; rw [show isT ts _ 3 (⟨#[99, 111, 117, 110, 116]⟩ : ByteArray).data.toList = true from h5] at he; subst he; have X4 := Lib.hid x4; have L4 := Lib.hid (L3.out.below b4); clear x4 b4)
              | (go_at_call 67; refine (X2.out.is hT 3 ⟨#[105, 110, 116]⟩).mono ?_; rintro e w3 ⟨he, x3, b3⟩; rw [show isT ts _ 3 (⟨#[105, 110, 116]⟩ : ByteArray).data.toList = false from h4] at he; subst he; have X3 := Lib.hid x3; have L3 := Lib.hid (L2.out.below b3); clear x3 b3)
              | (go_at_call 67; refine (X1.out.is hT 4 ⟨#[123]⟩).mono ?_; rintro e w2 ⟨he, x2, b2⟩; rw [show isT ts _ 4 (⟨#[123]⟩ : ByteArray).data.toList = false from h3] at he; subst he; have X2 := Lib.hid x2; have L2 := Lib.hid (L1.out.below b2); clear x2 b2)
              | (go_at_call 29; refine (X0.out.peek hT).mono ?_; rintro e w1 ⟨he, x1, b1⟩; rw [← HTk.out] at he; simp only [tokCells] at he; subst he; have c1 := x1.c1; have cf := x1.cf; have hz1 := x1.lt; have hne1 : ¬ M.P = w1.heap.size := (by omega); have hne2 : ¬ w1.heap.size = M.P := (by omega); have X1 := Lib.hid (x1.alloc (.cells (tokCells t) 73)); have L1 := Lib.hid (Loc.new x1.at_ (.cells (tokCells t) 73)); clear x1 b1))
            go_ret
            have eR := HE.out
            subst eR
            exact PAns.done XZ.out
          | false =>
            rw [if_neg (by rw [h5]; decide)] at hR
            have HR := Lib.hid hR
            clear hR ht
            go_enter Tryz.func116, Tryz.ntmps116
            go_wp2_with (first
              | (go_at_call 127; refine ans (X4.out.fn hown hS) (fun f wz (hr : ownedP ts S = .error f) hB => by (have eR := HR.out; rw [hr] at eR; subst eR; exact ⟨rfl, rfl, hB⟩)) (fun kid Sz Mz wz (hr : ownedP ts S = .ok (kid, Sz)) xz kz => ?_); have XZ := Lib.hid xz; have ez := HR.out; rw [hr] at ez; have HE := Lib.hid ez; clear xz ez hr kz)
              | (go_at_call 67; refine (X3.out.is hT 3 ⟨#[99, 111, 117, 110, 116]⟩).mono ?_; rintro e w4 ⟨he, x4, b4⟩; rw [show isT ts _ 3 (⟨#[99, 111, 117, 110, 116]⟩ : ByteArray).data.toList = false from h5] at he; subst he; have X4 := Lib.hid x4; have L4 := Lib.hid (L3.out.below b4); clear x4 b4)
              | (go_at_call 67; refine (X2.out.is hT 3 ⟨#[105, 110, 116]⟩).mono ?_; rintro e w3 ⟨he, x3, b3⟩; rw [show isT ts _ 3 (⟨#[105, 110, 116]⟩ : ByteArray).data.toList = false from h4] at he; subst he; have X3 := Lib.hid x3; have L3 := Lib.hid (L2.out.below b3); clear x3 b3)
              | (go_at_call 67; refine (X1.out.is hT 4 ⟨#[123]⟩).mono ?_; rintro e w2 ⟨he, x2, b2⟩; rw [show isT ts _ 4 (⟨#[123]⟩ : ByteArray).data.toList = false from h3] at he; subst he; have X2 := Lib.hid x2; have L2 := Lib.hid (L1.out.below b2); clear x2 b2)
              | (go_at_call 29; refine (X0.out.peek hT).mono ?_; rintro e w1 ⟨he, x1, b1⟩; rw [← HTk.out] at he; simp only [tokCells] at he; subst he; have c1 := x1.c1; have cf := x1.cf; have hz1 := x1.lt; have hne1 : ¬ M.P = w1.heap.size := (by omega); have hne2 : ¬ w1.heap.size = M.P := (by omega); have X1 := Lib.hid (x1.alloc (.cells (tokCells t) 73)); have L1 := Lib.hid (Loc.new x1.at_ (.cells (tokCells t) 73)); clear x1 b1))
            go_ret
            have eR := HE.out
            subst eR
            exact PAns.done XZ.out

end Go.Proofs.YtfiljgkcipnghaaGreatDoor.X
set_option linter.unusedVariables false
set_option linter.unusedSimpArgs false
namespace Go.Proofs.YtfiljgkcipnghaaGreatDoor.X
open Go.RowKit
def relM : List Bs := [[61, 61], [33, 61], [60], [60, 61], [62], [62, 61]]
def relW : List Bs := [[105, 110], [110, 111, 116, 105, 110]]
def relMC : Array Value := #[.string ⟨#[61, 61]⟩, .string ⟨#[33, 61]⟩, .string ⟨#[60]⟩, .string ⟨#[60, 61]⟩, .string ⟨#[62]⟩, .string ⟨#[62, 61]⟩]
def relWC : Array Value := #[.string ⟨#[105, 110]⟩, .string ⟨#[110, 111, 116, 105, 110]⟩]
theorem relMC_at (k : Nat) (h : k < 6) : relMC[k]? = some (.string ⟨(relM.getD k []).toArray⟩) := by
  match k, h with
  | 0, _ | 1, _ | 2, _ | 3, _ | 4, _ | 5, _ => rfl
theorem relWC_at (k : Nat) (h : k < 2) : relWC[k]? = some (.string ⟨(relW.getD k []).toArray⟩) := by
  match k, h with
  | 0, _ | 1, _ => rfl
theorem rel_mark {ts : List Tk} {S : PS} (k : Nat) (hk : k < 6) (h : ∀ j, j < k → isT ts S 4 (relM.getD j []) = false) (hi : isT ts S 4 (relM.getD k []) = true) : relationP ts S = .ok ((6, (k : Int) + 1), on S) := by
  have d : ∀ j (l : Bs), j < k → relM.getD j [] = l → isT ts S 4 l = false := fun j l h1 h2 => h2 ▸ h j h1
  unfold relationP
  match k, hk with
  | 0, _ => rw [if_pos (show isT ts S 4 [61, 61] = true from hi)]; rfl
  | 1, _ => rw [d 0 [61, 61] (by omega) rfl, if_neg (by decide), if_pos (show isT ts S 4 [33, 61] = true from hi)]; rfl
  | 2, _ => rw [d 0 [61, 61] (by omega) rfl, if_neg (by decide), d 1 [33, 61] (by omega) rfl, if_neg (by decide), if_pos (show isT ts S 4 [60] = true from hi)]; rfl
  | 3, _ => rw [d 0 [61, 61] (by omega) rfl, if_neg (by decide), d 1 [33, 61] (by omega) rfl, if_neg (by decide), d 2 [60] (by omega) rfl, if_neg (by decide), if_pos (show isT ts S 4 [60, 61] = true from hi)]; rfl
  | 4, _ => rw [d 0 [61, 61] (by omega) rfl, if_neg (by decide), d 1 [33, 61] (by omega) rfl, if_neg (by decide), d 2 [60] (by omega) rfl, if_neg (by decide), d 3 [60, 61] (by omega) rfl, if_neg (by decide), if_pos (show isT ts S 4 [62] = true from hi)]; rfl
  | 5, _ => rw [d 0 [61, 61] (by omega) rfl, if_neg (by decide), d 1 [33, 61] (by omega) rfl, if_neg (by decide), d 2 [60] (by omega) rfl, if_neg (by decide), d 3 [60, 61] (by omega) rfl, if_neg (by decide), d 4 [62] (by omega) rfl, if_neg (by decide), if_pos (show isT ts S 4 [62, 61] = true from hi)]; rfl
theorem rel_marks {ts : List Tk} {S : PS} (h : ∀ j, j < 6 → isT ts S 4 (relM.getD j []) = false) : relationP ts S = if isT ts S 3 [105, 110] then .ok ((7, 0), on S) else if isT ts S 3 [110, 111, 116, 105, 110] then .ok ((7, 1), on S) else .error (wrongP ts S) := by
  unfold relationP
  have d : ∀ j (l : Bs), j < 6 → relM.getD j [] = l → isT ts S 4 l = false := fun j l h1 h2 => h2 ▸ h j h1
  rw [d 0 [61, 61] (by omega) rfl, if_neg (by decide), d 1 [33, 61] (by omega) rfl, if_neg (by decide), d 2 [60] (by omega) rfl, if_neg (by decide), d 3 [60, 61] (by omega) rfl, if_neg (by decide), d 4 [62] (by omega) rfl, if_neg (by decide), d 5 [62, 61] (by omega) rfl, if_neg (by decide)]
theorem rel_word {ts : List Tk} {S : PS} (h0 : ∀ j, j < 6 → isT ts S 4 (relM.getD j []) = false) (k : Nat) (hk : k < 2) (h : ∀ j, j < k → isT ts S 3 (relW.getD j []) = false) (hi : isT ts S 3 (relW.getD k []) = true) : relationP ts S = .ok ((7, (k : Int)), on S) := by
  rw [rel_marks h0]
  match k, hk with
  | 0, _ => rw [if_pos (show isT ts S 3 [105, 110] = true from hi)]; rfl
  | 1, _ => rw [show isT ts S 3 [105, 110] = false from h 0 (by omega), if_neg (by decide), if_pos (show isT ts S 3 [110, 111, 116, 105, 110] = true from hi)]; rfl
theorem rel_none {ts : List Tk} {S : PS} (h0 : ∀ j, j < 6 → isT ts S 4 (relM.getD j []) = false) (h : ∀ j, j < 2 → isT ts S 3 (relW.getD j []) = false) : relationP ts S = .error (wrongP ts S) := by
  rw [rel_marks h0, show isT ts S 3 [105, 110] = false from h 0 (by omega), if_neg (by decide), show isT ts S 3 [110, 111, 116, 105, 110] = false from h 1 (by omega), if_neg (by decide)]
theorem none_more {ts : List Tk} {S : PS} {kind : Int} {l : List Bs} {k : Nat} (h : ∀ j, j < k → isT ts S kind (l.getD j []) = false) (hi : isT ts S kind (l.getD k []) = false) : ∀ j, j < k + 1 → isT ts S kind (l.getD j []) = false := by
  intro j hj
  rcases Nat.lt_or_ge j k with h1 | h1
  · exact h j h1
  · obtain rfl : j = k := by omega
    exact hi
set_option maxHeartbeats 8000000 in
set_option maxRecDepth 100000 in
theorem relation_any {ts : List Tk} (hT : TOK ts) {B : Nat} {M : PM} {S : PS} {w : World} (h : PAt ts B M S w) :
    Calls Tryz.prog 117 #[.pointer (some ⟨M.P, 0, none⟩)] w (PAns ts B M w (fun k : Int × Int => .tuple #[.int .i64 k.1, .int .i64 k.2]) (relationP ts S)) := by
  obtain ⟨R, hR⟩ : ∃ R, R = relationP ts S := ⟨_, rfl⟩
  rw [← hR]
  have HR := Lib.hid hR
  have X0 := Lib.hid (Stp.start h)
  have hbw := h.bsize
  have hpl := hT.len
  have h0 := h.pos
  clear h hR
  go_enter Tryz.func117, Tryz.ntmps117
  go_wp2_with fail
  go_loopw [10] (fun v wr => ∃ k : Nat, k ≤ 6 ∧ v = .int .i64 k ∧ Hid (∀ j, j < k → isT ts S 4 (relM.getD j []) = false) ∧ Hid (Stp ts B M w M S wr) ∧ Hid (w.heap.size < wr.heap.size ∧ wr.heap[w.heap.size]? = some (.cells relMC 9 (0, 0)))) (fun v _ => 6 - (intOf v).toNat)
  case atStart => exact ⟨0, by omega, rfl, Lib.hid (fun j hj => absurd hj (by omega)), Lib.hid (X0.out.alloc _), Lib.hid ⟨by simp, Go.heap_alloc_new w _⟩⟩
  case round =>
    obtain ⟨k, hk, rfl, HN, XR, HG⟩ := hrel
    by_cases hlt : k < 6
    · have hI0 : (k : Int) < 6 := by omega
      have hc := (Lib.cell_of_heap HG.out.2 k).trans (relMC_at k hlt)
      have RM := Lib.hid (fun hi => HR.out.trans (rel_mark (ts := ts) (S := S) k hlt HN.out hi))
      have RN := Lib.hid (fun hi => none_more (ts := ts) (S := S) (kind := 4) (l := relM) (k := k) HN.out hi)
      have hml : (relM.getD k []).length ≤ 2 := (by match k, hlt with | 0, _ | 1, _ | 2, _ | 3, _ | 4, _ | 5, _ => decide)
      generalize relM.getD k [] = m at hc RM RN hml
      have IS := Lib.hid (is_any XR.out.at_ hT 4 ⟨m.toArray⟩)
      rw [show (⟨m.toArray⟩ : ByteArray).data.toList = m by simp] at IS
      cases hi : isT ts S 4 m with
      | true =>
        rw [hi] at IS
        have hR := Lib.hid (RM.out hi)
        have hp2 := pos_next hT h0 (by rw [isT_kind hi]; decide)
        clear hi
        go_wp2_with (go_at_call 67; refine IS.out.mono ?_; rintro e w2 ⟨rfl, hB2⟩; have x2 := XR.out.below hB2; have c1 := x2.c1; have cf := x2.cf; have X2 := Lib.hid (x2.next hp2); clear x2 hB2)
        go_ret2
        have eR := hR.out
        subst eR
        exact PAns.done X2.out
      | false =>
        rw [hi] at IS
        have hR := Lib.hid (RN.out hi)
        clear hi
        go_wp2_with (go_at_call 67; refine IS.out.mono ?_; rintro e w2 ⟨rfl, hB2⟩; have x2 := Lib.hid (XR.out.below hB2); have hG2 := Lib.hid (And.intro (Nat.lt_of_lt_of_le HG.out.1 hB2.size) ((hB2.block _ HG.out.1).trans HG.out.2)); clear hB2)
        go_roundw
        case rel => exact ⟨k + 1, by omega, by go_num, hR, x2, hG2⟩
        case measure => simp [intOf]; omega
    · have hI0 : ¬ ((k : Int) < 6) := by omega
      have H6 : Hid (∀ j, j < 6 → isT ts S 4 (relM.getD j []) = false) := Lib.hid (fun j hj => HN.out j (by omega))
      have hw2 : w.heap.size ≤ wr.heap.size := XR.out.kept.size
      go_wp2_with fail
      go_loopw [30] (fun v wq => ∃ k : Nat, k ≤ 2 ∧ v = .int .i64 k ∧ Hid (∀ j, j < k → isT ts S 3 (relW.getD j []) = false) ∧ Hid (Stp ts B M w M S wq) ∧ Hid (wr.heap.size < wq.heap.size ∧ wq.heap[wr.heap.size]? = some (.cells relWC 9 (0, 0)))) (fun v _ => 2 - (intOf v).toNat)
      case atStart => exact ⟨0, by omega, rfl, Lib.hid (fun j hj => absurd hj (by omega)), Lib.hid (XR.out.alloc _), Lib.hid ⟨by simp, Go.heap_alloc_new wr _⟩⟩
      case round =>
        obtain ⟨k, hk, rfl, HN, XQ, HG⟩ := hrel
        by_cases hlt : k < 2
        · have hI0 : (k : Int) < 2 := by omega
          have hc := (Lib.cell_of_heap HG.out.2 k).trans (relWC_at k hlt)
          have RM := Lib.hid (fun hi => HR.out.trans (rel_word (ts := ts) (S := S) H6.out k hlt HN.out hi))
          have RN := Lib.hid (fun hi => none_more (ts := ts) (S := S) (kind := 3) (l := relW) (k := k) HN.out hi)
          have hml : (relW.getD k []).length ≤ 5 := (by match k, hlt with | 0, _ | 1, _ => decide)
          generalize relW.getD k [] = m at hc RM RN hml
          have IS := Lib.hid (is_any XQ.out.at_ hT 3 ⟨m.toArray⟩)
          rw [show (⟨m.toArray⟩ : ByteArray).data.toList = m by simp] at IS
          cases hi : isT ts S 3 m with
          | true =>
            rw [hi] at IS
            have hR := Lib.hid (RM.out hi)
            have hp2 := pos_next hT h0 (by rw [isT_kind hi]; decide)
            clear hi
            go_wp2_with (go_at_call 67; refine IS.out.mono ?_; rintro e w2 ⟨rfl, hB2⟩; have x2 := XQ.out.below hB2; have c1 := x2.c1; have cf := x2.cf; have X2 := Lib.hid (x2.next hp2); clear x2 hB2)
            go_ret2
            have eR := hR.out
            subst eR
            exact PAns.done X2.out
          | false =>
            rw [hi] at IS
            have hR := Lib.hid (RN.out hi)
            clear hi
            go_wp2_with (go_at_call 67; refine IS.out.mono ?_; rintro e w2 ⟨rfl, hB2⟩; have x2 := Lib.hid (XQ.out.below hB2); have hG2 := Lib.hid (And.intro (Nat.lt_of_lt_of_le HG.out.1 hB2.size) ((hB2.block _ HG.out.1).trans HG.out.2)); clear hB2)
            go_roundw
            case rel => exact ⟨k + 1, by omega, by go_num, hR, x2, hG2⟩
            case measure => simp [intOf]; omega
        · have hI0 : ¬ ((k : Int) < 2) := by omega
          have hR := Lib.hid (HR.out.trans (rel_none H6.out (fun j hj => HN.out j (by omega))))
          go_wp2_with (go_at_call 30; refine (XQ.out.wrong hT).mono ?_; rintro e w3 ⟨rfl, hB3⟩)
          have eR := hR.out
          subst eR
          exact ⟨rfl, rfl, hB3⟩

end Go.Proofs.YtfiljgkcipnghaaGreatDoor.X
set_option linter.unusedVariables false
set_option linter.unusedSimpArgs false
namespace Go.Proofs.YtfiljgkcipnghaaGreatDoor.X
open Go.RowKit
theorem Stp.relation {ts : List Tk} {B : Nat} {M M1 : PM} {S1 : PS} {w w1 : World} (hT : TOK ts) (X : Stp ts B M w M1 S1 w1) : Calls Tryz.prog 117 #[.pointer (some ⟨M.P, 0, none⟩)] w1 (PStep ts B M w M1 w1 (fun k : Int × Int => .tuple #[.int .i64 k.1, .int .i64 k.2]) (relationP ts S1)) := by
  rw [← X.P]; exact (relation_any hT X.at_).mono fun e w' h => h.base X
set_option maxHeartbeats 8000000 in
set_option maxRecDepth 100000 in
theorem atom_cmp {ts : List Tk} (hT : TOK ts) {n : Nat} (hn : n ≤ 32) {lo : Lv} (hlo : n < 32 → LvOK ts (n + 1) lo) (hlf : LvFair lo) (hterm : PFun ts 116 n (termP ts lo)) {B : Nat} {M : PM} {S : PS} {w : World} (h : PAt ts B M S w) (hS : S.nest = n) (hk : (pk ts S).kind = 3 → ((pk ts S).text == [116, 114, 117, 101]) = false ∧ ((pk ts S).text == [102, 97, 108, 115, 101]) = false ∧ ((pk ts S).text == [110, 101, 97, 114]) = false ∧ ((pk ts S).text == [97, 112, 97, 114, 116]) = false ∧ ((pk ts S).text == [116, 111, 108, 101, 114, 97, 116, 101, 100]) = false) :
    Calls Tryz.prog 98 #[.pointer (some ⟨M.P, 0, none⟩)] w (PAns ts B M w (fun i : Nat => .int .i64 i) (cmpP ts lo S)) := by
  obtain ⟨R, hR⟩ : ∃ R, R = cmpP ts lo S := ⟨_, rfl⟩
  rw [← hR]
  unfold cmpP at hR
  obtain ⟨t, ht⟩ : ∃ t, t = pk ts S := ⟨_, rfl⟩
  have HTk := Lib.hid ht
  have HPl : Hid (placeT ts S.pos = t.at_) := Lib.hid (by rw [ht]; rfl)
  have hpl := hT.len
  have h0 := h.pos
  have hsm := h.small
  have hos := h.osmall
  have X0 := Lib.hid (Stp.start h)
  have hbw := h.bsize
  have tf := tokField
  have hnS : S.nest ≤ 32 := by omega
  rw [← ht] at hk
  have HR1 := Lib.hid hR
  clear h hR ht
  by_cases h3 : t.kind = 3
  · have q := (hk h3)
    obtain ⟨e1, e2, e3, e4, e5⟩ := q
    have q3 : (t.kind == 3) = true := by simpa using h3
    clear hk h3
    go_enter Tryz.func98, Tryz.ntmps98
    go_wp2_with (first
      | (go_at_call 68; have PC := X5.out.putK hT S2.pos kn.1 [] kn.2 [left, right] #[.int .i64 (left : Nat), .int .i64 (right : Nat)] 2 _ rfl rfl rfl (by simp) Q5 O5; rw [HP2.out] at PC; refine PC.mono ?_; rintro e wp ⟨rfl, Mp, xp⟩; have XP := Lib.hid xp; clear xp PC)
      | (go_at_call 116; refine ans (X4.out.fn hterm N4) (fun f wz (hr : termP ts lo S4 = .error f) hB => by (have eR := HR4.out; rw [hr, bind_errE] at eR; subst eR; exact ⟨rfl, rfl, hB⟩)) (fun right S5 M5 w5 (hr5 : termP ts lo S4 = .ok (right, S5)) x5 k5 => ?_); have X5 := Lib.hid x5; have e5 := HR4.out; rw [hr5, bind_okE] at e5; have HR5 := Lib.hid e5; have hF := term_fair hlf _ _ _ hr5; have Q5 : S5.parts.length + 1 ≤ S5.pos := (by have q1 := hF.grow; obtain ⟨p1, p2, p3⟩ := P4; omega); have O5 : S5.offs.length + 1 ≤ S5.pos := (by have q1 := hF.grow; have q2 := hF.offs; obtain ⟨p1, p2, p3⟩ := P4; omega); clear hr5 hF; clear x5 e5 k5)
      | (go_at_call 117; refine ans (X3.out.relation hT) (fun f wz (hr : relationP ts S2 = .error f) hB => by (have eR := HR3.out; rw [hr, bind_errE] at eR; subst eR; exact ⟨rfl, rfl, hB⟩)) (fun kn S4 M4 w4 (hr4 : relationP ts S2 = .ok (kn, S4)) x4 k4 => ?_); have X4 := Lib.hid x4; have e4 := HR3.out; rw [hr4, bind_okE] at e4; have HR4 := Lib.hid e4; have E4 : S4 = on S2 := relation_fair hr4; have N4 : S4.nest = n := (by rw [E4]; exact N2); have Q2 := X3.out.at_.small; have O2 := X3.out.at_.osmall; have P4 : S4.pos = S2.pos + 1 ∧ S4.parts.length = S2.parts.length ∧ S4.offs.length = S2.offs.length := (by rw [E4]; exact ⟨rfl, rfl, rfl⟩); clear hr4 E4; clear x4 e4 k4)
      | (go_at_call 29; refine (X2.out.peek hT).mono ?_; rintro e w3 ⟨he, x3, b3⟩; rw [← HT2.out] at he; simp only [tokCells] at he; subst he; have X3 := Lib.hid x3; have HR3 := Lib.hid HR2.out; clear x3 b3)
      | (go_at_call 116; refine ans (X1.out.fn hterm hS) (fun f wz (hr : termP ts lo S = .error f) hB => by (have eR := HR1.out; rw [hr, bind_errE] at eR; subst eR; exact ⟨rfl, rfl, hB⟩)) (fun left S2 M2 w2 (hr2 : termP ts lo S = .ok (left, S2)) x2 k2 => ?_); have X2 := Lib.hid x2; have e2 := HR1.out; rw [hr2, bind_okE] at e2; have HR2 := Lib.hid e2; have N2 : S2.nest = n := (term_fair hlf _ _ _ hr2).nest.trans hS; clear hr2; obtain ⟨t2, ht2⟩ : ∃ t2, t2 = pk ts S2 := ⟨_, rfl⟩; have HT2 := Lib.hid ht2; have HP2 : Hid (placeT ts S2.pos = t2.at_) := Lib.hid (by rw [ht2]; rfl); clear ht2; clear x2 e2 k2)
      | (go_at_call 29; refine (X0.out.peek hT).mono ?_; rintro e w1 ⟨he, x1, b1⟩; rw [← HTk.out] at he; simp only [tokCells] at he; subst he; have c1 := x1.c1; have cf := x1.cf; have hz1 := x1.lt; have hne1 : ¬ M.P = w1.heap.size := (by omega); have hne2 : ¬ w1.heap.size = M.P := (by omega); have X1 := Lib.hid (x1.alloc (.cells (tokCells t) 73)); have L1 := Lib.hid (Loc.new x1.at_ (.cells (tokCells t) 73)); clear x1 b1))
    go_ret
    have eR := HR5.out
    subst eR
    exact PAns.done XP.out
  · have q3 : (t.kind == 3) = false := by simpa using h3
    clear hk h3
    go_enter Tryz.func98, Tryz.ntmps98
    go_wp2_with (first
      | (go_at_call 68; have PC := X5.out.putK hT S2.pos kn.1 [] kn.2 [left, right] #[.int .i64 (left : Nat), .int .i64 (right : Nat)] 2 _ rfl rfl rfl (by simp) Q5 O5; rw [HP2.out] at PC; refine PC.mono ?_; rintro e wp ⟨rfl, Mp, xp⟩; have XP := Lib.hid xp; clear xp PC)
      | (go_at_call 116; refine ans (X4.out.fn hterm N4) (fun f wz (hr : termP ts lo S4 = .error f) hB => by (have eR := HR4.out; rw [hr, bind_errE] at eR; subst eR; exact ⟨rfl, rfl, hB⟩)) (fun right S5 M5 w5 (hr5 : termP ts lo S4 = .ok (right, S5)) x5 k5 => ?_); have X5 := Lib.hid x5; have e5 := HR4.out; rw [hr5, bind_okE] at e5; have HR5 := Lib.hid e5; have hF := term_fair hlf _ _ _ hr5; have Q5 : S5.parts.length + 1 ≤ S5.pos := (by have q1 := hF.grow; obtain ⟨p1, p2, p3⟩ := P4; omega); have O5 : S5.offs.length + 1 ≤ S5.pos := (by have q1 := hF.grow; have q2 := hF.offs; obtain ⟨p1, p2, p3⟩ := P4; omega); clear hr5 hF; clear x5 e5 k5)
      | (go_at_call 117; refine ans (X3.out.relation hT) (fun f wz (hr : relationP ts S2 = .error f) hB => by (have eR := HR3.out; rw [hr, bind_errE] at eR; subst eR; exact ⟨rfl, rfl, hB⟩)) (fun kn S4 M4 w4 (hr4 : relationP ts S2 = .ok (kn, S4)) x4 k4 => ?_); have X4 := Lib.hid x4; have e4 := HR3.out; rw [hr4, bind_okE] at e4; have HR4 := Lib.hid e4; have E4 : S4 = on S2 := relation_fair hr4; have N4 : S4.nest = n := (by rw [E4]; exact N2); have Q2 := X3.out.at_.small; have O2 := X3.out.at_.osmall; have P4 : S4.pos = S2.pos + 1 ∧ S4.parts.length = S2.parts.length ∧ S4.offs.length = S2.offs.length := (by rw [E4]; exact ⟨rfl, rfl, rfl⟩); clear hr4 E4; clear x4 e4 k4)
      | (go_at_call 29; refine (X2.out.peek hT).mono ?_; rintro e w3 ⟨he, x3, b3⟩; rw [← HT2.out] at he; simp only [tokCells] at he; subst he; have X3 := Lib.hid x3; have HR3 := Lib.hid HR2.out; clear x3 b3)
      | (go_at_call 116; refine ans (X1.out.fn hterm hS) (fun f wz (hr : termP ts lo S = .error f) hB => by (have eR := HR1.out; rw [hr, bind_errE] at eR; subst eR; exact ⟨rfl, rfl, hB⟩)) (fun left S2 M2 w2 (hr2 : termP ts lo S = .ok (left, S2)) x2 k2 => ?_); have X2 := Lib.hid x2; have e2 := HR1.out; rw [hr2, bind_okE] at e2; have HR2 := Lib.hid e2; have N2 : S2.nest = n := (term_fair hlf _ _ _ hr2).nest.trans hS; clear hr2; obtain ⟨t2, ht2⟩ : ∃ t2, t2 = pk ts S2 := ⟨_, rfl⟩; have HT2 := Lib.hid ht2; have HP2 : Hid (placeT ts S2.pos = t2.at_) := Lib.hid (by rw [ht2]; rfl); clear ht2; clear x2 e2 k2)
      | (go_at_call 29; refine (X0.out.peek hT).mono ?_; rintro e w1 ⟨he, x1, b1⟩; rw [← HTk.out] at he; simp only [tokCells] at he; subst he; have c1 := x1.c1; have cf := x1.cf; have hz1 := x1.lt; have hne1 : ¬ M.P = w1.heap.size := (by omega); have hne2 : ¬ w1.heap.size = M.P := (by omega); have X1 := Lib.hid (x1.alloc (.cells (tokCells t) 73)); have L1 := Lib.hid (Loc.new x1.at_ (.cells (tokCells t) 73)); clear x1 b1))
    go_ret
    have eR := HR5.out
    subst eR
    exact PAns.done XP.out
set_option maxHeartbeats 8000000 in
set_option maxRecDepth 100000 in
theorem atom_any {ts : List Tk} (hT : TOK ts) {n : Nat} (hn : n ≤ 32) {lo : Lv} (hlo : n < 32 → LvOK ts (n + 1) lo) (hlf : LvFair lo) (hterm : PFun ts 116 n (termP ts lo)) : PFun ts 98 n (atomP ts lo) := by
  intro B M S w h hS
  have AC := Lib.hid (atom_cmp hT hn hlo hlf hterm h hS)
  obtain ⟨R, hR⟩ : ∃ R, R = atomP ts lo S := ⟨_, rfl⟩
  rw [← hR]
  unfold atomP at hR
  obtain ⟨t, ht⟩ : ∃ t, t = pk ts S := ⟨_, rfl⟩
  have HTk := Lib.hid ht
  have HPl : Hid (placeT ts S.pos = t.at_) := Lib.hid (by rw [ht]; rfl)
  have hpl := hT.len
  have h0 := h.pos
  have hsm := h.small
  have hos := h.osmall
  have X0 := Lib.hid (Stp.start h)
  have hbw := h.bsize
  have tf := tokField
  have hnS : S.nest ≤ 32 := by omega
  rw [← ht] at hR AC
  simp only at hR
  clear h
  by_cases h3 : t.kind = 3
  · rw [if_pos h3] at hR
    have q3 : (t.kind == 3) = true := by simpa using h3
    have hp2 : S.pos + 1 < ts.length := pos_next hT h0 (by rw [← ht, h3]; decide)
    by_cases t0 : t.text = [116, 114, 117, 101]
    · rw [if_pos t0] at hR
      have e0 : (t.text == [116, 114, 117, 101]) = true := by simpa using t0
      have HR := Lib.hid hR
      clear hR ht h3 AC t0
      go_enter Tryz.func98, Tryz.ntmps98
      go_wp2_with (first
        | (go_at_call 68; have PC := X1.out.put0 hT S.pos 1 [] 0 (by simp only [on]; omega) (by simp only [on]; omega); rw [HPl.out] at PC; refine PC.mono ?_; rintro e wp ⟨rfl, Mp, xp, _⟩; have XP := Lib.hid xp; clear xp PC)
        | (go_at_call 29; refine (X0.out.peek hT).mono ?_; rintro e w1 ⟨he, x1, b1⟩; rw [← HTk.out] at he; simp only [tokCells] at he; subst he; have c1 := x1.c1; have cf := x1.cf; have hz1 := x1.lt; have hne1 : ¬ M.P = w1.heap.size := (by omega); have hne2 : ¬ w1.heap.size = M.P := (by omega); have X1 := Lib.hid ((x1.next hp2).alloc (.cells (tokCells t) 73)); clear x1 b1))
      go_ret
      have eR := HR.out
      subst eR
      exact PAns.done XP.out
    · rw [if_neg t0] at hR
      have e0 : (t.text == [116, 114, 117, 101]) = false := by simpa using t0
      by_cases t1 : t.text = [102, 97, 108, 115, 101]
      · rw [if_pos t1] at hR
        have e1 : (t.text == [102, 97, 108, 115, 101]) = true := by simpa using t1
        have HR := Lib.hid hR
        clear hR ht h3 AC t0 t1
        go_enter Tryz.func98, Tryz.ntmps98
        go_wp2_with (first
          | (go_at_call 68; have PC := X1.out.put0 hT S.pos 2 [] 0 (by simp only [on]; omega) (by simp only [on]; omega); rw [HPl.out] at PC; refine PC.mono ?_; rintro e wp ⟨rfl, Mp, xp, _⟩; have XP := Lib.hid xp; clear xp PC)
          | (go_at_call 29; refine (X0.out.peek hT).mono ?_; rintro e w1 ⟨he, x1, b1⟩; rw [← HTk.out] at he; simp only [tokCells] at he; subst he; have c1 := x1.c1; have cf := x1.cf; have hz1 := x1.lt; have hne1 : ¬ M.P = w1.heap.size := (by omega); have hne2 : ¬ w1.heap.size = M.P := (by omega); have X1 := Lib.hid ((x1.next hp2).alloc (.cells (tokCells t) 73)); clear x1 b1))
        go_ret
        have eR := HR.out
        subst eR
        exact PAns.done XP.out
      · rw [if_neg t1] at hR
        have e1 : (t.text == [102, 97, 108, 115, 101]) = false := by simpa using t1
        by_cases t2 : t.text = [110, 101, 97, 114]
        · rw [if_pos t2] at hR
          have e2 : (t.text == [110, 101, 97, 114]) = true := by simpa using t2
          have HR := Lib.hid hR
          clear hR ht h3 AC t0 t1 t2
          go_enter Tryz.func98, Tryz.ntmps98
          go_wp2_with (first
            | (go_at_call 114; refine ans ((scoped_any hT hn hlo hlf X1.out.at_ hS hp2 8).mono (fun e w' h => PAns.base X1.out h)) (fun f wz (hr : scopedP ts lo 8 S = .error f) hB => by (have eR := HR.out; rw [hr] at eR; subst eR; exact ⟨rfl, rfl, hB⟩)) (fun kid Sz Mz wz (hr : scopedP ts lo 8 S = .ok (kid, Sz)) xz kz => ?_); have XZ := Lib.hid xz; have ez := HR.out; rw [hr] at ez; have HE := Lib.hid ez; clear xz ez hr kz)
            | (go_at_call 29; refine (X0.out.peek hT).mono ?_; rintro e w1 ⟨he, x1, b1⟩; rw [← HTk.out] at he; simp only [tokCells] at he; subst he; have c1 := x1.c1; have cf := x1.cf; have hz1 := x1.lt; have hne1 : ¬ M.P = w1.heap.size := (by omega); have hne2 : ¬ w1.heap.size = M.P := (by omega); have X1 := Lib.hid (x1.alloc (.cells (tokCells t) 73)); have L1 := Lib.hid (Loc.new x1.at_ (.cells (tokCells t) 73)); clear x1 b1))
          go_ret
          have eR := HE.out
          subst eR
          exact PAns.done XZ.out
        · rw [if_neg t2] at hR
          have e2 : (t.text == [110, 101, 97, 114]) = false := by simpa using t2
          by_cases t3 : t.text = [97, 112, 97, 114, 116]
          · rw [if_pos t3] at hR
            have e3 : (t.text == [97, 112, 97, 114, 116]) = true := by simpa using t3
            have HR := Lib.hid hR
            clear hR ht h3 AC t0 t1 t2 t3
            go_enter Tryz.func98, Tryz.ntmps98
            go_wp2_with (first
              | (go_at_call 114; refine ans ((scoped_any hT hn hlo hlf X1.out.at_ hS hp2 9).mono (fun e w' h => PAns.base X1.out h)) (fun f wz (hr : scopedP ts lo 9 S = .error f) hB => by (have eR := HR.out; rw [hr] at eR; subst eR; exact ⟨rfl, rfl, hB⟩)) (fun kid Sz Mz wz (hr : scopedP ts lo 9 S = .ok (kid, Sz)) xz kz => ?_); have XZ := Lib.hid xz; have ez := HR.out; rw [hr] at ez; have HE := Lib.hid ez; clear xz ez hr kz)
              | (go_at_call 29; refine (X0.out.peek hT).mono ?_; rintro e w1 ⟨he, x1, b1⟩; rw [← HTk.out] at he; simp only [tokCells] at he; subst he; have c1 := x1.c1; have cf := x1.cf; have hz1 := x1.lt; have hne1 : ¬ M.P = w1.heap.size := (by omega); have hne2 : ¬ w1.heap.size = M.P := (by omega); have X1 := Lib.hid (x1.alloc (.cells (tokCells t) 73)); have L1 := Lib.hid (Loc.new x1.at_ (.cells (tokCells t) 73)); clear x1 b1))
            go_ret
            have eR := HE.out
            subst eR
            exact PAns.done XZ.out
          · rw [if_neg t3] at hR
            have e3 : (t.text == [97, 112, 97, 114, 116]) = false := by simpa using t3
            by_cases t4 : t.text = [116, 111, 108, 101, 114, 97, 116, 101, 100]
            · rw [if_pos t4] at hR
              have e4 : (t.text == [116, 111, 108, 101, 114, 97, 116, 101, 100]) = true := by simpa using t4
              have HR := Lib.hid hR
              clear hR ht h3 AC t0 t1 t2 t3 t4
              go_enter Tryz.func98, Tryz.ntmps98
              go_wp2_with (first
                | (go_at_call 68; have PC := X4.out.put0 hT S.pos 10 s 0 Q4 O4; rw [HPl.out] at PC; refine PC.mono ?_; rintro e wp ⟨rfl, Mp, xp, _⟩; have XP := Lib.hid xp; clear xp PC)
                | (go_at_call 113; refine ansU (X3.out.mark hT ⟨#[41]⟩) (fun f wz (hr : markP ts [41] S3 = .error f) hB => by (have eR := HR3.out; rw [hr, then_errE] at eR; subst eR; exact ⟨rfl, rfl, hB⟩)) (fun S4 M4 w4 (hr4 : markP ts [41] S3 = .ok S4) x4 k4 => ?_); have X4 := Lib.hid x4; have e4 := HR3.out; rw [hr4, then_okE] at e4; have HR4 := Lib.hid e4; have Q4 : S4.parts.length + 1 ≤ S4.pos := (by rw [mark_fair hr4]; have := X3.out.at_.small; simp only [on]; omega); have O4 : S4.offs.length + 1 ≤ S4.pos := (by rw [mark_fair hr4]; have := X3.out.at_.osmall; simp only [on]; omega); clear hr4; have tc : w4.cell? ⟨w1.heap.size, 3, none⟩ = some (.int .i64 (t.at_ : Nat)) := ((L3.out.step k4).cell 3).trans rfl; clear x4 e4 k4)
                | (go_at_call 115; refine ans (X2.out.text hT) (fun f wz (hr : textP ts S2 = .error f) hB => by (have eR := HR2.out; rw [hr, bind_errE] at eR; subst eR; exact ⟨rfl, rfl, hB⟩)) (fun s S3 M3 w3 (hr3 : textP ts S2 = .ok (s, S3)) x3 k3 => ?_); have X3 := Lib.hid x3; have e3 := HR2.out; rw [hr3, bind_okE] at e3; have HR3 := Lib.hid e3; clear hr3; have L3 := Lib.hid (L2.out.step k3); clear x3 e3 k3)
                | (go_at_call 113; refine ansU (X1.out.mark hT ⟨#[40]⟩) (fun f wz (hr : markP ts [40] (on S) = .error f) hB => by (have eR := HR1.out; rw [hr, then_errE] at eR; subst eR; exact ⟨rfl, rfl, hB⟩)) (fun S2 M2 w2 (hr2 : markP ts [40] (on S) = .ok S2) x2 k2 => ?_); have X2 := Lib.hid x2; have e2 := HR1.out; rw [hr2, then_okE] at e2; have HR2 := Lib.hid e2; clear hr2; have L2 := Lib.hid (L1.out.step k2); clear x2 e2 k2)
                | (go_at_call 29; refine (X0.out.peek hT).mono ?_; rintro e w1 ⟨he, x1, b1⟩; rw [← HTk.out] at he; simp only [tokCells] at he; subst he; have c1 := x1.c1; have cf := x1.cf; have hz1 := x1.lt; have hne1 : ¬ M.P = w1.heap.size := (by omega); have hne2 : ¬ w1.heap.size = M.P := (by omega); have X1 := Lib.hid ((x1.next hp2).alloc (.cells (tokCells t) 73)); have L1q := (Loc.new (x1.next hp2).at_ (.cells (tokCells t) 73)); rw [show (w1.setCell ⟨M.P, 1, none⟩ (.int .i64 ((S.pos : Int) + 1))).heap.size = w1.heap.size by simp] at L1q; have L1 := Lib.hid L1q; clear L1q; have HR1 := Lib.hid HR.out; clear x1 b1))
              go_ret
              have eR := HR4.out
              subst eR
              exact PAns.done XP.out
            · rw [if_neg t4] at hR
              have e4 : (t.text == [116, 111, 108, 101, 114, 97, 116, 101, 100]) = false := by simpa using t4
              rw [hR]
              exact AC.out (fun _ => ⟨e0, e1, e2, e3, e4⟩)
  · rw [if_neg h3] at hR
    rw [hR]
    exact AC.out (fun e => absurd e h3)

end Go.Proofs.YtfiljgkcipnghaaGreatDoor.X
set_option linter.unusedVariables false
set_option linter.unusedSimpArgs false
namespace Go.Proofs.YtfiljgkcipnghaaGreatDoor.X
open Go.RowKit
theorem level_ok {ts : List Tk} (hT : TOK ts) {n : Nat} (hn : n ≤ 32) {lo : Lv} (hlo : n < 32 → LvOK ts (n + 1) lo) (hlf : LvFair lo) : LvOK ts n ⟨exprP ts lo, unitP ts lo, termP ts lo⟩ := by
  have hterm := term_any hT hn hlo hlf (set_any hT hn) (owned_any hT hn)
  have hunit := unit_any hT hn hlo hlf (atom_any hT hn hlo hlf hterm)
  exact ⟨expr_any hT hn (conj_any hT hn hunit (unit_fair hlf)) (conj_fair hlf), hunit, hterm⟩
theorem lv_ok {ts : List Tk} (hT : TOK ts) : ∀ d, d ≤ 32 → LvOK ts (32 - d) (lv ts d)
  | 0, _ => level_ok hT (Nat.le_refl _) (fun h => absurd h (by omega)) ⟨(fun S a S' h => by cases h), (fun S a S' h => by cases h), (fun S a S' h => by cases h)⟩
  | d + 1, h => level_ok hT (by omega) (fun _ => by
      have e : 32 - (d + 1) + 1 = 32 - d := by omega
      rw [e]
      exact lv_ok hT d (by omega)) (lv_fair ts d)

end Go.Proofs.YtfiljgkcipnghaaGreatDoor.X
