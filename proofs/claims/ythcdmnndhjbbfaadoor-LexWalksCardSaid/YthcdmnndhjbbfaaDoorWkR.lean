/-
  The law of RangeR and RangeN at the iterator of lex: what the round's frame looks like, said by the law.
-/
import Derived.Test.YthcdmnndhjbbfaaDoorWkA
set_option linter.unusedVariables false
set_option linter.unusedSimpArgs false
namespace Go.Proofs.YthcdmnndhjbbfaaDoor.X
open Go.RowKit
/-- A round's frame: what was handed over in e0, e1, the loop's variables in p (a box) and q. -/
def frameIt (a : Act) (p q e0 e1 Bx : Nat) (x : It) : Act := { tmps := (((a.tmps.setIfInBounds e0 (.agg (itC x))).setIfInBounds e1 (itE x)).setIfInBounds p (.pointer (some ⟨Bx, 0, none⟩))).setIfInBounds q (itE x), defers := [] }
theorem range_it {F : Fence} {n : Nat} {g : Operand} {assign body : Code} {Q : Exit → Act → World → Prop} {a : Act} {w : World} (p q e0 e1 : Nat) (l : Bs) (base sb B0 : Nat) (Xs : List Nat)
    (hro : F.round = none) (h1 : 1 ≤ n) (hg : a.eval g = .func (.func 32) #[] #[.pointer (some ⟨sb, 0, none⟩)]) (hFg : F.fn 32) (hB0 : B0 ≤ w.heap.size)
    (hseq : SeqR F (n - 1) Tryd.prog 32 #[.pointer (some ⟨sb, 0, none⟩)] itV (ItR l base) (Spares B0 Xs none) (ItS l) (fun _ => True) w)
    (I : List It → World → Prop) (Ix : Code → List It → World → Prop) (hI : OwnFrom w.heap.size I) (hIx : ∀ c, OwnFrom w.heap.size (Ix c)) (h0 : I [] w) (hIB : ∀ pre W, I pre W → B0 ≤ W.heap.size)
    (hassign : ∀ (l' : Nat) (x : It) (W : World) (K : Act → World → Prop), K (frameIt a p q e0 e1 W.heap.size x) (W.alloc (.cells (itC x) 44)) →
      assign.wpIn (F.inRound l') (n - 1 - 1) Tryd.prog (Exit.then K (fun _ _ _ => False)) { tmps := ((#[e0, e1] : Array Tmp).zip (itV x)).foldl (fun t (p, v) => t.setIfInBounds p v) a.tmps, defers := [] } W)
    (hbody : ∀ (l' : Nat) (pre : List It) (x : It) (Bx : Nat) (W : World), w.heap.size ≤ l' → (∃ r, W.heap[l']? = some (.loop r)) → I pre W → W.heap[Bx]? = some (.cells (itC x) 44 (0, 0)) → ItR l base pre x W →
      body.wpIn (F.inRound l') (n - 1 - 1) Tryd.prog (ownPostG w.heap.size (Spares B0 Xs none) I Ix (pre ++ [x]) W) (frameIt a p q e0 e1 Bx x) W)
    (hdone : ∀ (D : Nat) (xs : List It) (W : World), w.heap.size ≤ D → ItS l xs → I xs W → W.heap[D]? = some (.deferred (some [])) → Q .normal { a with defers := { target := .collected D, args := #[] } :: a.defers } W)
    (hstop : ∀ (D : Nat) (c : Code) (pre : List It) (W : World), w.heap.size ≤ D → Ix c pre W → W.heap[D]? = some (.deferred (some [])) → c.wpIn F n Tryd.prog Q { a with defers := { target := .collected D, args := #[] } :: a.defers } W) :
    (Code.rangeFunc g #[e0, e1] assign body).wpIn F n Tryd.prog Q a w := by
  refine range_R hro h1 (gf := 32) (lb := #[.pointer (some ⟨sb, 0, none⟩)]) hg hFg (enters_of Tryd.func32 (by kernel_rfl) rfl) hseq (fun h k => h.trans k) (fun W l' o o' hl h1 h2 => Spares.turn W l' o o' h1 h2 (by omega) (fun B e => by cases e)) (fun x => by cases x <;> rfl)
    I Ix hI hIx h0 (fun pre x a' W => ∃ Bx, W.heap[Bx]? = some (.cells (itC x) 44 (0, 0)) ∧ ItR l base pre x W ∧ a' = frameIt a p q e0 e1 Bx x)
    (fun pre x a' _ X Y row hs' hg hr => by
      obtain ⟨Bx, h1, h2, h3⟩ := hs'
      exact ⟨Bx, block_kept h1 hg (fun r e => (hr r e).2), itR_own _ _ _ pre x () X Y row h2 hg hr, h3⟩)
    (fun l' pre x W K hi hR hK => ?_) (fun l' pre x a' W hl hr hi hax => ?_) hdone (fun D c pre W hD _ hi hk => hstop D c pre W hD hi hk)
  · exact hassign l' x W K (hK _ _ ((KeepsOthers.alloc _ _).from _) (Spares.of_below ((Below.refl _ W).alloc (Nat.le_refl _) _) (hIB pre W hi) (fun B e => by cases e)) (hI.alloc _ hi)
      ⟨W.heap.size, Go.heap_alloc_new W _, itR_own _ _ W.heap.size pre x () W _ none hR (World.grownBy_alloc _ _ _) (fun r e => by cases e), rfl⟩)
  · obtain ⟨Bx, h1, h2, rfl⟩ := hax
    exact hbody l' pre x Bx W hl hr hi h1 h2
theorem range_itN {F : Fence} {n : Nat} {g : Operand} {assign body : Code} {Q : Exit → Act → World → Prop} {a : Act} {w w0 : World} (p q e0 e1 : Nat) (l : Bs) (base sb B0 : Nat) (Xs : List Nat)
    {l₀ : Nat} {r₀ : Loop} (hro : F.round = some l₀) (hl₀ : w.heap[l₀]? = some (.loop r₀)) (h1 : 1 ≤ n) (hg : a.eval g = .func (.func 32) #[] #[.pointer (some ⟨sb, 0, none⟩)]) (hFg : F.fn 32) (hB0 : B0 ≤ w.heap.size)
    (hb0 : Below w0.heap.size w0 w) (hseq : SeqR F (n - 1) Tryd.prog 32 #[.pointer (some ⟨sb, 0, none⟩)] itV (ItR l base) (Spares B0 Xs none) (ItS l) (fun _ => True) w0)
    (I : List It → World → Prop) (Ix : Code → List It → World → Prop) (hI : OwnFrom w.heap.size I) (hIx : ∀ c, OwnFrom w.heap.size (Ix c)) (h0 : I [] w) (hIB : ∀ pre W, I pre W → B0 ≤ W.heap.size)
    (hassign : ∀ (l' : Nat) (x : It) (W : World) (K : Act → World → Prop), K (frameIt a p q e0 e1 W.heap.size x) (W.alloc (.cells (itC x) 44)) →
      assign.wpIn (F.inRound l') (n - 1 - 1) Tryd.prog (Exit.then K (fun _ _ _ => False)) { tmps := ((#[e0, e1] : Array Tmp).zip (itV x)).foldl (fun t (p, v) => t.setIfInBounds p v) a.tmps, defers := [] } W)
    (hbody : ∀ (l' : Nat) (pre : List It) (x : It) (Bx : Nat) (W : World), w.heap.size ≤ l' → (∃ r, W.heap[l']? = some (.loop r)) → I pre W → W.heap[Bx]? = some (.cells (itC x) 44 (0, 0)) → ItR l base pre x W →
      body.wpIn (F.inRound l') (n - 1 - 1) Tryd.prog (ownPostG w.heap.size (Spares B0 Xs none) I Ix (pre ++ [x]) W) (frameIt a p q e0 e1 Bx x) W)
    (hdone : ∀ (xs : List It) (W : World), ItS l xs → I xs W → Q .normal a W)
    (hstop : ∀ (c : Code) (pre : List It) (W : World), Ix c pre W → c.wpIn F n Tryd.prog Q a W) :
    (Code.rangeFunc g #[e0, e1] assign body).wpIn F n Tryd.prog Q a w := by
  refine range_RN hro hl₀ h1 (gf := 32) (lb := #[.pointer (some ⟨sb, 0, none⟩)]) hg hFg (enters_of Tryd.func32 (by kernel_rfl) rfl) hb0 hseq (fun h k => h.trans k) (fun W l' o o' hl h1 h2 => Spares.turn W l' o o' h1 h2 (by omega) (fun B e => by cases e)) (fun x => by cases x <;> rfl)
    I Ix hI hIx h0 (fun pre x a' W => ∃ Bx, W.heap[Bx]? = some (.cells (itC x) 44 (0, 0)) ∧ ItR l base pre x W ∧ a' = frameIt a p q e0 e1 Bx x)
    (fun pre x a' _ X Y row hs' hg hr => by
      obtain ⟨Bx, h1, h2, h3⟩ := hs'
      exact ⟨Bx, block_kept h1 hg (fun r e => (hr r e).2), itR_own _ _ _ pre x () X Y row h2 hg hr, h3⟩)
    (fun l' pre x W K hi hR hK => ?_) (fun l' pre x a' W hl hr hi hax => ?_) hdone (fun c pre W _ hi => hstop c pre W hi)
  · exact hassign l' x W K (hK _ _ ((KeepsOthers.alloc _ _).from _) (Spares.of_below ((Below.refl _ W).alloc (Nat.le_refl _) _) (hIB pre W hi) (fun B e => by cases e)) (hI.alloc _ hi)
      ⟨W.heap.size, Go.heap_alloc_new W _, itR_own _ _ W.heap.size pre x () W _ none hR (World.grownBy_alloc _ _ _) (fun r e => by cases e), rfl⟩)
  · obtain ⟨Bx, h1, h2, rfl⟩ := hax
    exact hbody l' pre x Bx W hl hr hi h1 h2
theorem RI.more {w : World} {D : Nat} {E : Int} {vw : Value} {ts : List Tk} {f : Option (Int × Nat)} {s : ByteArray} {B B' : Nat} {ds : List Nat} {W W' : World} (h : RI w D E vw ts f s B ds W) (hb : Below W.heap.size W W') (hB : B ≤ B') : RI w D E vw ts f s B' ds W' :=
  have h2 := h.mv (Mv.of_below (Bs := []) hb) (fun b e => by cases e) (fun b e => by cases e)
  ⟨h2.ws, fun d hd => ⟨Nat.lt_of_lt_of_le (h2.mks d hd).1 hB, (h2.mks d hd).2⟩⟩
theorem RI.mark {w : World} {D : Nat} {E : Int} {vw : Value} {ts : List Tk} {f : Option (Int × Nat)} {s : ByteArray} {B B' Dm : Nat} {ds : List Nat} {W : World} (h : RI w D E vw ts f s B ds W) (hB : B ≤ B') (hd : W.heap[Dm]? = some (.deferred (some []))) (hD : Dm < B') : RI w D E vw ts f s B' (Dm :: ds) W :=
  ⟨h.ws, fun d hd' => by
    rcases List.mem_cons.1 hd' with rfl | h'
    · exact ⟨hD, hd⟩
    · exact ⟨Nat.lt_of_lt_of_le (h.mks d h').1 hB, (h.mks d h').2⟩⟩
/-- Between two rounds of the first loop's range. -/
structure I1 (w : World) (D : Nat) (E : Int) (vw : Value) (ts : List Tk) (f : Option (Int × Nat)) (s : ByteArray) (B : Nat) (ds : List Nat) (bR r bK bD : Nat) (pre : List It) (X : World) : Prop where
  ri : RI w D E vw ts f s B ds X
  cr : Boxed X bR 3 (.int .i64 r)
  out : ∃ k d, Boxed X bK 3 (.int .i64 (k : Nat)) ∧ Boxed X bD 4 (.bool d) ∧ St ts f pre k d
theorem I1.own {w : World} {D : Nat} {E : Int} {vw : Value} {ts : List Tk} {f : Option (Int × Nat)} {s : ByteArray} {B : Nat} {ds : List Nat} {bR r bK bD : Nat} (hw : w.heap.size ≤ B) : OwnFrom B (I1 w D E vw ts f s B ds bR r bK bD) := by
  rintro pre X Y row ⟨h1, h2, k, d, h3, h4, h5⟩ hg hr
  have hr2 : ∀ r, row = some r → ∃ o : Obj, X.heap[r]? = some o ∧ o.isCells = false := fun r e => (hr r e).2
  exact ⟨h1.own hw (Nat.le_refl _) hg hr, block_kept h2 hg hr2, k, d, block_kept h3 hg hr2, block_kept h4 hg hr2, h5⟩
/-- A round has broken off. -/
structure X1 (w : World) (D : Nat) (E : Int) (vw : Value) (ts : List Tk) (f : Option (Int × Nat)) (s : ByteArray) (B : Nat) (ds : List Nat) (bR r : Nat) (c : Code) (X : World) : Prop where
  code : c = .exit 2
  one : r = 1
  ri : RI w D E vw ts f s B ds X
  cr : Boxed X bR 3 (.int .i64 r)
theorem X1.own {w : World} {D : Nat} {E : Int} {vw : Value} {ts : List Tk} {f : Option (Int × Nat)} {s : ByteArray} {B : Nat} {ds : List Nat} {bR r : Nat} (c : Code) (hw : w.heap.size ≤ B) : OwnFrom B (fun (_ : List It) X => X1 w D E vw ts f s B ds bR r c X) := by
  rintro pre X Y row ⟨h0, h1, h2, h3⟩ hg hr
  have hr2 : ∀ r, row = some r → ∃ o : Obj, X.heap[r]? = some o ∧ o.isCells = false := fun r e => (hr r e).2
  exact ⟨h0, h1, h2.own hw (Nat.le_refl _) hg hr, block_kept h3 hg hr2⟩
theorem I1.step {w : World} {D : Nat} {E : Int} {vw : Value} {ts : List Tk} {f : Option (Int × Nat)} {s : ByteArray} {B : Nat} {ds : List Nat} {bR r bK bD : Nat} {pre pre' : List It} {X X' : World} {k' : Nat} {d' : Bool} (h : I1 w D E vw ts f s B ds bR r bK bD pre X) (m : Mv [bK, bD] X X')
    (hk : Boxed X' bK 3 (.int .i64 k')) (hd : Boxed X' bD 4 (.bool d')) (hs : St ts f pre' k' d') (h1 : D + 5 ≤ bK) (h2 : D + 5 ≤ bD) (h3 : bR ≠ bK) (h4 : bR ≠ bD) :
    KeepsFrom B X X' ∧ Spares w.heap.size [bK, bD] none X X' ∧ I1 w D E vw ts f s B ds bR r bK bD pre' X' := by
  obtain ⟨hri, hcr, k, d, hbk, hbd, hst⟩ := h
  have hc : ∀ b, b ∈ [bK, bD] → ∃ t v, Boxed X b t v := fun b hb => by
    rcases List.mem_cons.1 hb with rfl | hb
    · exact ⟨_, _, hbk⟩
    · rw [List.mem_singleton.1 hb]; exact ⟨_, _, hbd⟩
  have hB : ∀ b, b ∈ [bK, bD] → D + 5 ≤ b := fun b hb => by
    rcases List.mem_cons.1 hb with rfl | hb
    · exact h1
    · rw [List.mem_singleton.1 hb]; exact h2
  have hwD := hri.ws.wD
  exact ⟨m.keeps hc B, m.spares (fun b hb => by have := hB b hb; omega) hri.ws.bel.size, hri.mv m hB hc, m.box hcr (by simp [h3, h4]), k', d', hk, hd, hs⟩
theorem I1.stop {w : World} {D : Nat} {E : Int} {vw : Value} {ts : List Tk} {f : Option (Int × Nat)} {s : ByteArray} {B : Nat} {ds : List Nat} {bR r bK bD : Nat} {pre : List It} {X X' : World} (h : I1 w D E vw ts f s B ds bR r bK bD pre X) (m : Mv [bK, bD] X X') (hr : r = 1) (h1 : D + 5 ≤ bK) (h2 : D + 5 ≤ bD) (h3 : bR ≠ bK) (h4 : bR ≠ bD) :
    KeepsFrom B X X' ∧ X1 w D E vw ts f s B ds bR r (.exit 2) X' := by
  obtain ⟨hri, hcr, k, d, hbk, hbd, hst⟩ := h
  have hc : ∀ b, b ∈ [bK, bD] → ∃ t v, Boxed X b t v := fun b hb => by
    rcases List.mem_cons.1 hb with rfl | hb
    · exact ⟨_, _, hbk⟩
    · rw [List.mem_singleton.1 hb]; exact ⟨_, _, hbd⟩
  have hB : ∀ b, b ∈ [bK, bD] → D + 5 ≤ b := fun b hb => by
    rcases List.mem_cons.1 hb with rfl | hb
    · exact h1
    · rw [List.mem_singleton.1 hb]; exact h2
  exact ⟨m.keeps hc B, rfl, hr, hri.mv m hB hc, m.box hcr (by simp [h3, h4])⟩
theorem two_set {X : World} {bK bD t t' : Nat} {u0 v0 : Value} (hk : Boxed X bK t u0) (hd : Boxed X bD t' v0) (hne : bK ≠ bD) (q : Nat) (u v : Value) :
    Mv [bK, bD] X (((X.drewN q).setCell ⟨bK, 0, none⟩ u).setCell ⟨bD, 0, none⟩ v) ∧ Boxed (((X.drewN q).setCell ⟨bK, 0, none⟩ u).setCell ⟨bD, 0, none⟩ v) bK t u ∧ Boxed (((X.drewN q).setCell ⟨bK, 0, none⟩ u).setCell ⟨bD, 0, none⟩ v) bD t' v := by
  have hb := below_drewN (Below.refl X.heap.size X) q
  have hk1 : Boxed (X.drewN q) bK t u0 := (hb.block _ hk.lt).trans hk
  have hd1 : Boxed (X.drewN q) bD t' v0 := (hb.block _ hd.lt).trans hd
  exact ⟨((Mv.of_below hb).trans (Mv.set _ (by simp) _)).trans (Mv.set _ (by simp) _), (hk1.set u).other hne v, (hd1.other (fun e => hne e.symm) u).set v⟩
theorem one_set {X : World} {bK bD t' : Nat} {v0 : Value} (hd : Boxed X bD t' v0) (v : Value) : Mv [bK, bD] X (X.setCell ⟨bD, 0, none⟩ v) ∧ Boxed (X.setCell ⟨bD, 0, none⟩ v) bD t' v := ⟨Mv.set _ (by simp) _, hd.set v⟩
/-- Between two rounds of the second loop's range. -/
structure I2 (w : World) (D : Nat) (E : Int) (vw : Value) (ts : List Tk) (f : Option (Int × Nat)) (s : ByteArray) (B : Nat) (ds : List Nat) (bK : Nat) (pre : List It) (X : World) : Prop where
  ri : RI w D E vw ts f s B ds X
  ck : Boxed X bK 3 (.int .i64 (pre.length : Nat))
  pre : Pre ts f pre
theorem I2.own {w : World} {D : Nat} {E : Int} {vw : Value} {ts : List Tk} {f : Option (Int × Nat)} {s : ByteArray} {B : Nat} {ds : List Nat} {bK : Nat} (hw : w.heap.size ≤ B) : OwnFrom B (I2 w D E vw ts f s B ds bK) := by
  rintro pre X Y row ⟨h1, h2, h3⟩ hg hr
  have hr2 : ∀ r, row = some r → ∃ o : Obj, X.heap[r]? = some o ∧ o.isCells = false := fun r e => (hr r e).2
  exact ⟨h1.own hw (Nat.le_refl _) hg hr, block_kept h2 hg hr2, h3⟩
theorem I2.step {w : World} {D : Nat} {E : Int} {vw : Value} {ts : List Tk} {f : Option (Int × Nat)} {s : ByteArray} {B : Nat} {ds : List Nat} {bK : Nat} {pre : List It} {x : It} {X Y : World} (h : I2 w D E vw ts f s B ds bK pre X) (hb : Below X.heap.size X Y) (hp : Pre ts f (pre ++ [x])) (h1 : D + 5 ≤ bK) :
    KeepsFrom B X (Y.setCell ⟨bK, 0, none⟩ (.int .i64 ((pre.length : Int) + 1))) ∧ Spares w.heap.size [bK] none X (Y.setCell ⟨bK, 0, none⟩ (.int .i64 ((pre.length : Int) + 1))) ∧ I2 w D E vw ts f s B ds bK (pre ++ [x]) (Y.setCell ⟨bK, 0, none⟩ (.int .i64 ((pre.length : Int) + 1))) := by
  obtain ⟨hri, hck, _⟩ := h
  have hc : ∀ b, b ∈ [bK] → ∃ t v, Boxed X b t v := fun b hb => by rw [List.mem_singleton.1 hb]; exact ⟨_, _, hck⟩
  have hB : ∀ b, b ∈ [bK] → D + 5 ≤ b := fun b hb => by rw [List.mem_singleton.1 hb]; exact h1
  have m : Mv [bK] X (Y.setCell ⟨bK, 0, none⟩ (.int .i64 ((pre.length : Int) + 1))) := (Mv.of_below hb).trans (Mv.set _ (by simp) _)
  have hwD := hri.ws.wD
  have hY : Boxed Y bK 3 (.int .i64 (pre.length : Nat)) := (hb.block _ hck.lt).trans hck
  refine ⟨m.keeps hc B, m.spares (fun b hb => by have := hB b hb; omega) hri.ws.bel.size, hri.mv m hB hc, ?_, hp⟩
  rw [List.length_append, List.length_singleton]
  exact hY.set _
/-- Between two rounds of the range within it. -/
structure I3 (X : World) (ts : List Tk) (f : Option (Int × Nat)) (pre : List It) (Y : World) : Prop where
  bel : Below X.heap.size X Y
  ci : Boxed Y X.heap.size 3 (.int .i64 (pre.length : Nat))
  pre : Pre ts f pre
theorem I3.own {X : World} {ts : List Tk} {f : Option (Int × Nat)} {B : Nat} (hB : X.heap.size ≤ B) : OwnFrom B (I3 X ts f) := by
  rintro pre Y Z row ⟨h1, h2, h3⟩ hg hr
  have hr2 : ∀ r, row = some r → ∃ o : Obj, Y.heap[r]? = some o ∧ o.isCells = false := fun r e => (hr r e).2
  exact ⟨h1.grown hg h1.size (fun k e => Nat.le_trans hB (hr k e).1), block_kept h2 hg hr2, h3⟩
structure X3 (X : World) (c : Code) (Y : World) : Prop where
  code : c = .exit 6
  bel : Below X.heap.size X Y
theorem X3.own {X : World} {B : Nat} (c : Code) (hB : X.heap.size ≤ B) : OwnFrom B (fun (_ : List It) Y => X3 X c Y) := by
  rintro pre Y Z row ⟨h0, h1⟩ hg hr
  exact ⟨h0, h1.grown hg h1.size (fun k e => Nat.le_trans hB (hr k e).1)⟩
theorem I3.both {X Y : World} {ts : List Tk} {f : Option (Int × Nat)} {pre : List It} (h : I3 X ts f pre Y) (B q : Nat) :
    KeepsFrom B Y ((Y.drewN q).setCell ⟨X.heap.size, 0, none⟩ (.int .i64 ((pre.length : Int) + 1))) ∧ Spares X.heap.size [X.heap.size] none Y ((Y.drewN q).setCell ⟨X.heap.size, 0, none⟩ (.int .i64 ((pre.length : Int) + 1))) ∧
      Below X.heap.size X ((Y.drewN q).setCell ⟨X.heap.size, 0, none⟩ (.int .i64 ((pre.length : Int) + 1))) ∧ Boxed ((Y.drewN q).setCell ⟨X.heap.size, 0, none⟩ (.int .i64 ((pre.length : Int) + 1))) X.heap.size 3 (.int .i64 ((pre.length + 1 : Nat) : Int)) := by
  have hb := below_drewN (Below.refl Y.heap.size Y) q
  have m : Mv [X.heap.size] Y ((Y.drewN q).setCell ⟨X.heap.size, 0, none⟩ (.int .i64 ((pre.length : Int) + 1))) := (Mv.of_below hb).trans (Mv.set _ (by simp) _)
  have hc : ∀ b, b ∈ [X.heap.size] → ∃ t v, Boxed Y b t v := fun b hb => by rw [List.mem_singleton.1 hb]; exact ⟨_, _, h.ci⟩
  have hB : ∀ b, b ∈ [X.heap.size] → X.heap.size ≤ b := fun b hb => by rw [List.mem_singleton.1 hb]; exact Nat.le_refl _
  have hci : Boxed (Y.drewN q) X.heap.size 3 (.int .i64 (pre.length : Nat)) := (hb.block _ h.ci.lt).trans h.ci
  exact ⟨m.keeps hc B, m.spares hB h.bel.size, h.bel.trans (m.below hB h.bel.size), hci.set _⟩
theorem I3.step {X Y : World} {ts : List Tk} {f : Option (Int × Nat)} {pre : List It} {x : It} (h : I3 X ts f pre Y) (B q : Nat) (hp : Pre ts f (pre ++ [x])) :
    KeepsFrom B Y ((Y.drewN q).setCell ⟨X.heap.size, 0, none⟩ (.int .i64 ((pre.length : Int) + 1))) ∧ Spares X.heap.size [X.heap.size] none Y ((Y.drewN q).setCell ⟨X.heap.size, 0, none⟩ (.int .i64 ((pre.length : Int) + 1))) ∧ I3 X ts f (pre ++ [x]) ((Y.drewN q).setCell ⟨X.heap.size, 0, none⟩ (.int .i64 ((pre.length : Int) + 1))) := by
  obtain ⟨h1, h2, h3, h4⟩ := h.both B q
  exact ⟨h1, h2, h3, by rw [List.length_append, List.length_singleton]; exact h4, hp⟩
theorem I3.stop {X Y : World} {ts : List Tk} {f : Option (Int × Nat)} {pre : List It} (h : I3 X ts f pre Y) (B q : Nat) :
    KeepsFrom B Y ((Y.drewN q).setCell ⟨X.heap.size, 0, none⟩ (.int .i64 ((pre.length : Int) + 1))) ∧ X3 X (.exit 6) ((Y.drewN q).setCell ⟨X.heap.size, 0, none⟩ (.int .i64 ((pre.length : Int) + 1))) := by
  obtain ⟨h1, h2, h3, h4⟩ := h.both B q
  exact ⟨h1, rfl, h3⟩
abbrev mkD (D : Nat) : Deferred := { target := .collected D, args := #[] }
/-- The marks: each once, all new. -/
def GoodM (w : World) (ds : List Nat) : Prop := ds.Nodup ∧ ∀ d, d ∈ ds → w.heap.size ≤ d
theorem GoodM.cons {w : World} {ds : List Nat} {B Dm : Nat} (h : GoodM w ds) (hB : ∀ d, d ∈ ds → d < B) (hD : B ≤ Dm) (hw : w.heap.size ≤ Dm) : GoodM w (Dm :: ds) :=
  ⟨List.nodup_cons.2 ⟨fun e => by have := hB _ e; omega, h.1⟩, fun d hd => by
    rcases List.mem_cons.1 hd with rfl | hd
    · exact hw
    · exact h.2 d hd⟩
theorem results_c {P : Program} {fn : Func} {p : Tmp} {tp : TypeId} (h : fn.results = #[.cell p tp]) (tmps : Array Value) (w : World) (v : Value) (a : Addr)
    (hp : tmps.getD p undef = .pointer (some a)) (hv : (loadVar tp a).run P w = .ok v w) : (results fn tmps).run P w = .ok v w := by
  have hp' : tmps[p]?.getD undef = .pointer (some a) := by simpa using hp
  simp [results, h, hp', asAddr, hv]
theorem leave_marks {F : Fence} {n : Nat} {P : Program} {fn : Func} {tmps : Array Value} {w : World} {b t : Nat} (hres : ∀ W : World, Boxed W b t (.bool true) → (results fn tmps).run P W = .ok (.bool true) W) :
    ∀ (L : List Nat) (X : World), GoodM w L → (∀ d, d ∈ L → X.heap[d]? = some (.deferred (some []))) → Boxed X b t (.bool true) → Below w.heap.size w X →
      LeavesInM F n P fn tmps (fun e w' => e = .returned (.bool true) ∧ Below w.heap.size w w') (L.map mkD) .returning X
  | [], X, _, _, hb, hB => ⟨_, hres X hb, rfl, hB⟩
  | d :: L, X, hg, hd, hb, hB => by
    have h1 := hd d (List.mem_cons_self)
    have hlt := (Array.getElem?_eq_some_iff.1 h1).1
    have hnd := List.nodup_cons.1 hg.1
    refine ⟨by simp, .inl ⟨d, _, rfl, run_takeDeferred h1, leave_marks hres L _ ⟨hnd.2, fun k hk => hg.2 k (List.mem_cons_of_mem _ hk)⟩ (fun k hk => ?_) ?_ ?_⟩⟩
    · refine (World.putObj_heap_other ?_).trans (hd k (List.mem_cons_of_mem _ hk))
      intro e
      subst e
      exact hnd.1 hk
    · refine (World.putObj_heap_other ?_).trans hb
      intro e
      have hb' : X.heap[b]? = some (.cells #[.bool true] t (0, 0)) := hb
      first
        | (rw [e, h1] at hb'; cases hb')
        | (rw [← e, h1] at hb'; cases hb')
    · exact hB.grown (grownBy_putObj' X d _) (by have := hg.2 d (List.mem_cons_self); have := hB.size; omega) (fun k e => by cases e; exact hg.2 d (List.mem_cons_self))

end Go.Proofs.YthcdmnndhjbbfaaDoor.X
