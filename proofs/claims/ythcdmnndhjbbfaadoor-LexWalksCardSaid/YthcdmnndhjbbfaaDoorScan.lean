/-
  The walk of Scan.
-/
import Derived.Test.YthcdmnndhjbbfaaDoorEach
import Derived.Maps.OwnIn
set_option linter.unusedVariables false
set_option linter.unusedSimpArgs false
namespace Go.Proofs.YthcdmnndhjbbfaaDoor.X
open Go.RowKit
attribute [local go_sem] Oper.semAt_some

/-- What Scan answers. -/
def ScanAns (w : World) (r : List Tk × Option (Int × Nat)) (e : Ending) (w' : World) : Prop := Below w.heap.size w w' ∧ match r.2 with
  | none => ∃ v, TokSl w' w.heap.size v r.1 ∧ e = .returned (.tuple #[v, .nilIface])
  | some f => ∃ b, e = .returned (.tuple #[.slice none 0 0, .iface 47 (.pointer (some ⟨b, 0, none⟩))]) ∧ w.heap.size ≤ b ∧ w'.heap[b]? = some (faultObj f.1 f.2)
/-- Between two rounds. -/
def ScanI (w : World) (pre : List It) (W : World) : Prop := ∃ (v : Value) (ts : List Tk), pre = ts.map .tok ∧ Boxed W w.heap.size 33 (.slice none 0 0) ∧ Boxed W (w.heap.size + 1) 26 .nilIface ∧ Boxed W (w.heap.size + 2) 33 v ∧
  TokSl W (w.heap.size + 4) v ts ∧ Below w.heap.size w W ∧ w.heap.size + 4 ≤ W.heap.size
/-- A round has left. -/
def ScanX (l : Bs) (w : World) (W : World) : Prop := ∃ c a b, (prefixL l).2 = some (c, a) ∧ Boxed W w.heap.size 33 (.slice none 0 0) ∧ Boxed W (w.heap.size + 1) 26 (.iface 47 (.pointer (some ⟨b, 0, none⟩))) ∧ w.heap.size ≤ b ∧ W.heap[b]? = some (faultObj c a) ∧ Below w.heap.size w W
theorem row_kept {W W' : World} {base e size n : Nat} {v : Value} {xs : List Value} {row : Option Nat} (h : W.ownsRow base e size v n xs) (hg : W.grownBy W' row) (hr : ∀ r, row = some r → ∃ o : Obj, W.heap[r]? = some o ∧ o.isCells = false) : W'.ownsRow base e size v n xs := by
  refine h.kept hg ?_
  rcases h.2 with ⟨rfl, _⟩ | ⟨g, cap, cur, rfl, _, hgb, _⟩
  · exact .inl rfl
  · refine .inr fun e' => ?_
    obtain ⟨o, ho, hc⟩ := hr g (by simpa [Value.ownBlock] using e'.symm)
    rw [hgb] at ho; cases ho; cases hc
theorem block_kept {W W' : World} {b : Nat} {cs : Array Value} {t : TypeId} {fr : Nat × Nat} {row : Option Nat} (h : W.heap[b]? = some (.cells cs t fr)) (hg : W.grownBy W' row) (hr : ∀ r, row = some r → ∃ o : Obj, W.heap[r]? = some o ∧ o.isCells = false) : W'.heap[b]? = some (.cells cs t fr) := by
  refine (hg.block b (Array.getElem?_eq_some_iff.1 h).1 (fun e' => ?_)).trans h
  obtain ⟨o, ho, hc⟩ := hr b e'.symm
  rw [h] at ho; cases ho; cases hc
theorem scanI_own (w : World) (B : Nat) (hB : w.heap.size ≤ B) : OwnFrom B (ScanI w) := by
  rintro pre X Y row ⟨v, ts, h1, h2, h3, h4, h5, h6, h7⟩ hg hr
  have hr2 : ∀ r, row = some r → ∃ o : Obj, X.heap[r]? = some o ∧ o.isCells = false := fun r e => (hr r e).2
  exact ⟨v, ts, h1, block_kept h2 hg hr2, block_kept h3 hg hr2, block_kept h4 hg hr2, row_kept h5 hg hr2, h6.grown hg h6.size (fun k e => Nat.le_trans hB (hr k e).1), Nat.le_trans h7 hg.size⟩
theorem scanX_own (l : Bs) (w : World) (B : Nat) (hB : w.heap.size ≤ B) : OwnFrom B (fun (_ : List It) W => ScanX l w W) := by
  rintro pre X Y row ⟨c, a, b, h1, h2, h3, h4, h5, h6⟩ hg hr
  have hr2 : ∀ r, row = some r → ∃ o : Obj, X.heap[r]? = some o ∧ o.isCells = false := fun r e => (hr r e).2
  exact ⟨c, a, b, h1, block_kept h2 hg hr2, block_kept h3 hg hr2, h4, block_kept h5 hg hr2, h6.grown hg h6.size (fun k e => Nat.le_trans hB (hr k e).1)⟩
/-- The cells of what is handed over; the error. -/
def itC : It → Array Value
  | .tok t => tokCells t
  | .flt _ _ _ => zeroCells
def itE : It → Value
  | .tok _ => .nilIface
  | .flt _ _ b => .iface 47 (.pointer (some ⟨b, 0, none⟩))
theorem itR_own (l : Bs) (base B : Nat) (pre : List It) (x : It) : OwnFrom B (fun (_ : Unit) W => ItR l base pre x W) := by
  rintro _ X Y row h hg hr
  have hr2 : ∀ r, row = some r → ∃ o : Obj, X.heap[r]? = some o ∧ o.isCells = false := fun r e => (hr r e).2
  cases x with
  | tok t => exact h
  | flt c a b => exact ⟨h.1, h.2.1, h.2.2.1, block_kept h.2.2.2 hg hr2⟩
/-- What a step of the collecting body keeps. -/
theorem spares_append {W w1 : World} {B0 B base : Nat} {tmp : Obj} {v v1 : Value} {ts ts' : List Tk} (hv : Boxed W B 33 v) (hrow : TokSl W base v ts) (hrow' : TokSl w1 base v1 ts') (hgrow : (W.alloc tmp).grownBy w1 v.ownBlock)
    (hat : v1.ownBlock = v.ownBlock ∨ v1.ownBlock = some (W.alloc tmp).heap.size) (hB0 : B0 ≤ W.heap.size) (hb : B0 ≤ base) (hB : B0 ≤ B) (hne : some B ≠ v.ownBlock) : Spares B0 [B] (some B) W (w1.setCell ⟨B, 0, none⟩ v1) := by
  have hv1 : Boxed w1 B 33 v := (hv.alloc tmp).kept hgrow hne
  have hs1 := hgrow.size
  simp only [World.size_alloc] at hs1
  have hr1 : roOf (some B) W = v.ownBlock := by simp [roOf, hv.cell]
  have hr2 : roOf (some B) (w1.setCell ⟨B, 0, none⟩ v1) = v1.ownBlock := by simp [roOf, (hv1.set v1).cell]
  refine ⟨(((Below.refl B0 W).alloc hB0 tmp).grown hgrow (by simp; omega) (fun k e => Nat.le_trans hb (hrow.lt k e).1)).setCell (p := ⟨B, 0, none⟩) hB v1, ?_, ?_⟩
  · intro b cs t fr hbs hro hc
    rw [hr1] at hro
    have hlt := (Array.getElem?_eq_some_iff.1 hc).1
    have hbB : b ≠ B := fun e => hbs (by rw [e]; exact List.mem_cons_self)
    exact ((Below.heap_setCell _ _ _ b hbB).trans ((hgrow.block b (by simp; omega) (fun e => hro e.symm)).trans (Below.heap_alloc _ _ _ hlt))).trans hc
  · rw [hr1, hr2]
    rcases hat with h | h
    · exact .inl h
    · refine .inr ⟨_, h, by simp, ?_⟩
      have := (hrow'.lt _ h).2
      simpa using this
theorem scanN_len (l : Bs) : ∀ (n i : Nat), (scanN l n i).1.length ≤ n
  | 0, i => by simp [scanN]
  | n + 1, i => by
    cases hr : tokAt l (skipN l i) with
    | error f => rw [scanN_err hr]; simp
    | ok t =>
      by_cases hk : t.kind = 0
      · rw [scanN_end hr hk]; simp
      · rw [scanN_ok hr hk]; have := scanN_len l n t.end_; simp only [List.length_cons]; omega
theorem prefix_len (l : Bs) : (prefixL l).1.length ≤ 4097 := by
  unfold prefixL
  split
  · simp
  · exact Nat.le_trans (scanN_len l _ _) (by omega)
theorem row_base {W : World} {base base' e size n : Nat} {v : Value} {xs : List Value} (h : W.ownsRow base e size v n xs) (hb : base' ≤ base) : W.ownsRow base' e size v n xs := by
  refine ⟨h.1, ?_⟩
  rcases h.2 with h2 | ⟨g, cap, cur, h1, h2, h3⟩
  · exact .inl h2
  · exact .inr ⟨g, cap, cur, h1, Nat.le_trans hb h2, h3⟩
theorem results_cc {P : Program} {fn : Func} {p q : Tmp} {tp tq : TypeId} (h : fn.results = #[.cell p tp, .cell q tq]) (tmps : Array Value) (w : World) (v u : Value) (a b : Addr)
    (hp : tmps.getD p undef = .pointer (some a)) (hq : tmps.getD q undef = .pointer (some b)) (hv : (loadVar tp a).run P w = .ok v w) (hu : (loadVar tq b).run P w = .ok u w) : (results fn tmps).run P w = .ok (.tuple #[v, u]) w := by
  have hp' : tmps[p]?.getD undef = .pointer (some a) := by simpa using hp
  have hq' : tmps[q]?.getD undef = .pointer (some b) := by simpa using hq
  simp [results, h, hp', hq', asAddr, hv, hu]

set_option maxHeartbeats 4000000 in
set_option maxRecDepth 100000 in
theorem scan_any (s : ByteArray) (w : World) (hs : s.size ≤ 9223372036854775807) (hL : LW w) :
    Calls Tryd.prog 18 #[.string s] w (ScanAns w (scanL s.data.toList)) := by
  refine (callsIn_wide (n := 20)).1 ?_
  refine callsIn_of_wp_marks Tryd.func18 rfl trivial ?_ rfl
  simp only [Tryd.ntmps18, List.size_toArray, List.length_cons, List.length_nil, Nat.reduceAdd, Nat.reduceSub, Array.replicate_succ, Array.replicate_zero, List.push_toArray, List.append_toArray, List.nil_append, List.cons_append]
  gi_wp2_with (refine ⟨trivial, ?_⟩; gi_at_call 22; refine (callsIn_wide.2 (each_any _ _)).mono ?_; rintro e w' ⟨rfl, rfl⟩)
  have b0 := ((Boxed.new w 33 (.slice none 0 0)).alloc (.cells #[.nilIface] 26)).alloc (.cells #[.slice none 0 0] 33) |>.alloc (.cells #[.string s] 9)
  have b1 := ((Boxed.new (w.alloc (.cells #[.slice none 0 0] 33)) 26 .nilIface).alloc (.cells #[.slice none 0 0] 33)).alloc (.cells #[.string s] 9)
  have b2 := (Boxed.new ((w.alloc (.cells #[.slice none 0 0] 33)).alloc (.cells #[.nilIface] 26)) 33 (.slice none 0 0)).alloc (.cells #[.string s] 9)
  have b3 := Boxed.new (((w.alloc (.cells #[.slice none 0 0] 33)).alloc (.cells #[.nilIface] 26)).alloc (.cells #[.slice none 0 0] 33)) 9 (.string s)
  simp only [World.size_alloc] at b1 b2 b3
  have hB0 : Below w.heap.size w ((((w.alloc (.cells #[.slice none 0 0] 33)).alloc (.cells #[.nilIface] 26)).alloc (.cells #[.slice none 0 0] 33)).alloc (.cells #[.string s] 9)) := ((((Below.refl _ w).alloc (Nat.le_refl _) _).alloc (by simp) _).alloc (by simp; omega) _).alloc (by simp; omega) _
  have hsz : ((((w.alloc (.cells #[.slice none 0 0] 33)).alloc (.cells #[.nilIface] 26)).alloc (.cells #[.slice none 0 0] 33)).alloc (.cells #[.string s] 9)).heap.size = w.heap.size + 4 := by simp
  obtain ⟨W0, hW0⟩ : ∃ W0, (((w.alloc (.cells #[.slice none 0 0] 33)).alloc (.cells #[.nilIface] 26)).alloc (.cells #[.slice none 0 0] 33)).alloc (.cells #[.string s] 9) = W0 := ⟨_, rfl⟩
  rw [hW0] at b0 b1 b2 b3 hB0 hsz ⊢
  clear hW0
  have hbig := hL.big
  have h2e : w.heap.size + 1 + 1 = w.heap.size + 2 := rfl
  have h3e : w.heap.size + 1 + 1 + 1 = w.heap.size + 3 := rfl
  refine range_R rfl (by decide) (gf := 32) (lb := #[.pointer (some ⟨w.heap.size + 3, 0, none⟩)]) rfl trivial (enters_of Tryd.func32 (by kernel_rfl) rfl)
    (each1_seq 19 (by decide) s hs (w.heap.size + 3) w.heap.size [w.heap.size + 2] (some (w.heap.size + 2)) W0 (by omega) (by omega) (fun b hb => by rw [List.mem_singleton.1 hb]; omega) (fun B e => by cases e; omega) b3 (by simp) (fun g e => by simp [roOf, b2.cell, Value.ownBlock] at e) (hL.below hB0))
    (fun h k => h.trans k) (fun W l o o' hl h1 h2 => Spares.turn W l o o' h1 h2 (by omega) (fun B e => by cases e; omega)) (fun x => by cases x <;> rfl)
    (ScanI w) (fun c _ W => c = .ret ∧ ScanX s.data.toList w W) (scanI_own w _ (by omega)) (fun c => by
      intro pre X Y row h hg hr
      exact ⟨h.1, scanX_own s.data.toList w _ (by omega) pre X Y row h.2 hg hr⟩)
    ⟨_, [], rfl, b0, b1, b2, World.ownsRow_nil _ _ _ _, hB0, by omega⟩
    (fun pre x a' W => ∃ Bx, W.heap[Bx]? = some (.cells (itC x) 44 (0, 0)) ∧ ItR s.data.toList W0.heap.size pre x W ∧ a' = { tmps := #[.string s, undef, .pointer (some ⟨w.heap.size, 0, none⟩), .pointer (some ⟨w.heap.size + 1, 0, none⟩), .pointer (some ⟨w.heap.size + 2, 0, none⟩), .pointer (some ⟨Bx, 0, none⟩), itE x, .string s, .func (.func 32) #[] #[.pointer (some ⟨w.heap.size + 3, 0, none⟩)], .agg (itC x), itE x, undef, undef, undef, undef, undef, undef, undef, undef], defers := [] })
    (fun pre x a' _ X Y row hs' hg hr => by
      obtain ⟨Bx, h1, h2, h3⟩ := hs'
      exact ⟨Bx, block_kept h1 hg (fun r e => (hr r e).2), itR_own _ _ _ pre x () X Y row h2 hg hr, h3⟩)
    ?assign ?body ?done ?stop
  case assign =>
    rintro l pre x W K hI hR hK
    obtain ⟨v, ts, h1, h2, h3, h4, h5, h6, h7⟩ := hI
    have hk : K _ (W.alloc (.cells (itC x) 44)) := hK _ _ ((KeepsOthers.alloc _ _).from _) (Spares.of_below ((Below.refl _ W).alloc (Nat.le_refl _) _) h6.size (fun B e => by cases e; omega))
      (scanI_own w W.heap.size h6.size pre W _ none ⟨v, ts, h1, h2, h3, h4, h5, h6, h7⟩ (World.grownBy_alloc _ _ _) (fun r e => by cases e)) ⟨W.heap.size, Go.heap_alloc_new W _, itR_own _ _ W.heap.size pre x () W _ none hR (World.grownBy_alloc _ _ _) (fun r e => by cases e), rfl⟩
    have HK := Lib.hid hk
    clear hk hK hR h1 h2 h3 h4 h5 h6 h7
    cases x with
    | tok t =>
      dsimp only [itV, itC, itE, tokV, tokCells] at HK ⊢
      gi_wp2
      exact HK.out
    | flt c a b =>
      dsimp only [itV, itC, itE] at HK ⊢
      gi_wp2
      exact HK.out
  case body =>
    rintro l pre x a' W hl hr hI ⟨Bx, hBx, hR, rfl⟩
    obtain ⟨v, ts, hpre, h2, h3, h4, h5, h6, h7⟩ := hI
    cases x with
    | tok t =>
      obtain ⟨i0, hi, hz0, hz1, hz2⟩ := info_parts infoTok
      dsimp only [itC, itE, tokCells] at hBx ⊢
      have hlen : ts.length ≤ 4096 := by
        have h8 := (List.getElem?_eq_some_iff.1 (show (prefixL s.data.toList).1[pre.length]? = some t from hR)).1
        have h9 := prefix_len s.data.toList
        rw [hpre, List.length_map] at h8
        omega
      have hsW := h6.size
      have c4 := h4.cell
      have y0 : W.cell? ⟨Bx, 0, none⟩ = some (.int .i64 t.kind) := (Lib.cell_of_heap hBx _).trans rfl
      have y1 : W.cell? ⟨Bx, 1, none⟩ = some (.string ⟨t.text.toArray⟩) := (Lib.cell_of_heap hBx _).trans rfl
      have y2 : W.cell? ⟨Bx, 2, none⟩ = some (.int .i64 t.num) := (Lib.cell_of_heap hBx _).trans rfl
      have y3 : W.cell? ⟨Bx, 3, none⟩ = some (.int .i64 t.at_) := (Lib.cell_of_heap hBx _).trans rfl
      have y4 : W.cell? ⟨Bx, 4, none⟩ = some (.int .i64 t.end_) := (Lib.cell_of_heap hBx _).trans rfl
      have H2 := Lib.hid h2
      have H3 := Lib.hid h3
      have H4 := Lib.hid h4
      have H5 := Lib.hid h5
      have H6 := Lib.hid h6
      have HPRE := Lib.hid hpre
      have hne : some (w.heap.size + 2) ≠ v.ownBlock := fun e => by have := (h5.lt _ e.symm).1; omega
      have HNE := Lib.hid hne
      have HR := Lib.hid hR
      clear h2 h3 h4 h5 h6 hBx hpre hR hne
      gi_wp2_with (gi_at_builtin; refine wpListIn_append_own_at _ rfl (.tmp 14) (.tmp 16) 33 rfl (w.heap.size + 4) 44 i0 (.agg zeroCells) 5 48 Tryd.underlying33 hi hz0 hz1 hz2 rfl (by omega) v ts.length _ rfl (H5.out.alloc _) ⟨W.heap.size, 0, none⟩ 1 1 (tokCells t).toList (by simp [Act.eval]) (by simp [tokCells]) (fun j u hu => World.news_of_block (cs := tokCells t) (t := 44) (fr := (0, 0)) (Go.heap_alloc_new W _) j u hu) (by simp [tokCells, Value.oneCell']) (by simp only [maxLen]; omega) (by omega) (by simp; omega) ?_; intro v1 w1 hown1 hgrow1 _ hat1; obtain ⟨g1, cap1, rfl⟩ := ownsRow_succ hown1; have HV1 := Lib.hid ((H4.out.alloc _).kept hgrow1 HNE.out); have hc1 := HV1.out.cell; have hf1 := HV1.out.frozen; have HO1 := Lib.hid hown1; have HG1 := Lib.hid hgrow1; have HA1 := Lib.hid hat1; clear hown1 hgrow1 hat1)
      have hrow1 : TokSl w1 (w.heap.size + 4) (.slice (some ⟨g1, 0, none⟩) (ts.length + 1) cap1) (ts ++ [t]) := by rw [TokSl, tokRow_snoc, List.length_append]; exact HO1.out
      have hsp : Spares w.heap.size [w.heap.size + 2] (some (w.heap.size + 2)) W (w1.setCell ⟨w.heap.size + 2, 0, none⟩ (.slice (some ⟨g1, 0, none⟩) (ts.length + 1) cap1)) := spares_append H4.out H5.out hrow1 HG1.out HA1.out hsW (by omega) (by omega) HNE.out
      have hgb := HG1.out
      have hne1 : some (w.heap.size + 2) ≠ (Value.slice (some ⟨g1, 0, none⟩) (ts.length + 1) cap1).ownBlock := fun e => by have := (hrow1.lt _ e.symm).1; omega
      have hne0 : ∀ k, k < w.heap.size + 4 → some k ≠ v.ownBlock := fun k hk e => by have := (H5.out.lt _ e.symm).1; omega
      refine ⟨⟨hsp.size, fun k o hk1 hk2 ho => ?_⟩, hsp, _, ts ++ [t], by rw [HPRE.out]; simp, ?_, ?_, HV1.out.set _, hrow1.kept (grownBy_setCell' _ _ _) (.inr (fun e => hne1 e.symm)), H6.out.trans hsp.below, Nat.le_trans h7 hsp.size⟩
      · have hlt := (Array.getElem?_eq_some_iff.1 hk2).1
        refine (Below.heap_setCell _ _ _ k (by dsimp only; omega)).trans ((hgb.block k (by simp; omega) (fun e => ?_)).trans ((Below.heap_alloc _ _ _ hlt).trans hk2))
        rcases H5.out.2 with ⟨h, _⟩ | ⟨g, cap, cur, h, _, hgb2, _⟩
        · rw [h] at e; cases e
        · rw [h] at e
          injection e with e
          subst e
          rw [hgb2] at hk2; cases hk2; cases ho
      · exact (Below.heap_setCell _ _ _ _ (by dsimp only; omega)).trans ((H2.out.alloc _).kept hgb (hne0 _ (by omega)))
      · exact (Below.heap_setCell _ _ _ _ (by dsimp only; omega)).trans ((H3.out.alloc _).kept hgb (hne0 _ (by omega)))
    | flt c a b =>
      dsimp only [itC, itE] at hBx ⊢
      have hsW := h6.size
      have c2 := h2.cell
      have f2 := h2.frozen
      have c3 := h3.cell
      have f3 := h3.frozen
      obtain ⟨hr1, hr2, hr3, hr4⟩ := hR
      have H2 := Lib.hid h2
      have H3 := Lib.hid h3
      have H6 := Lib.hid h6
      have HR2 := Lib.hid hr2
      have HR4 := Lib.hid hr4
      clear h2 h3 h4 h5 h6 hBx hpre hr1 hr2 hr4
      gi_wp2
      refine ⟨((KeepsOthers.setCell _ _ _).from _).trans ((KeepsOthers.setCell _ _ _).from _), rfl, c, a, b, HR2.out, ?_, ?_, by omega, ?_, ?_⟩
      · exact (H2.out.set _).other (by omega) _
      · exact (H3.out.other (by omega) _).set _
      · exact (Below.heap_setCell _ _ _ _ (by dsimp only; omega)).trans ((Below.heap_setCell _ _ _ _ (by dsimp only; omega)).trans HR4.out)
      · exact (H6.out.setCell (p := ⟨w.heap.size, 0, none⟩) (Nat.le_refl _) _).setCell (p := ⟨w.heap.size + 1, 0, none⟩) (by simp) _
  case done =>
    rintro D xs W hD hS hI hK
    obtain ⟨v, ts, hpre, h2, h3, h4, h5, h6, h7⟩ := hI
    have hR : scanL s.data.toList = (ts, none) := by
      unfold ItS at hS
      unfold scanL
      cases hf : (prefixL s.data.toList).2 with
      | none =>
        rw [hf] at hS
        simp only at hS
        rw [hpre] at hS
        have h8 : ts = (prefixL s.data.toList).1 := List.map_inj_right (fun a b e => by injection e) |>.1 hS
        simp only [Option.isSome_none, Bool.false_eq_true, if_false]
        rw [h8, ← hf]
      | some f =>
        rw [hf] at hS
        obtain ⟨b, hb⟩ := hS
        rw [hpre] at hb
        have : It.flt f.1 f.2 b ∈ List.map It.tok ts := by rw [hb]; simp
        obtain ⟨t, _, h9⟩ := List.mem_map.1 this
        cases h9
    have HR := Lib.hid hR
    have c4 := h4.cell
    have c2 := h2.cell
    have f2 := h2.frozen
    have c3 := h3.cell
    have f3 := h3.frozen
    obtain ⟨A, cp, rfl⟩ := own_slice h5
    have H2 := Lib.hid h2
    have H3 := Lib.hid h3
    have H5 := Lib.hid h5
    have H6 := Lib.hid h6
    have HK := Lib.hid hK
    have HD := Lib.hid hD
    clear h2 h3 h4 h5 h6 hK hR hS hpre
    gi_wp2
    have hK2 := (KeepsOthers.setCell _ ⟨w.heap.size + 1, 0, none⟩ .nilIface).same D _ ((KeepsOthers.setCell W ⟨w.heap.size, 0, none⟩ (.slice A ts.length cp)).same D _ HK.out rfl) rfl
    refine ⟨by simp, .inl ⟨_, _, rfl, run_takeDeferred hK2, ?_⟩⟩
    have hDl := HD.out
    have x2 : ((W.setCell ⟨w.heap.size, 0, none⟩ (.slice A ts.length cp)).setCell ⟨w.heap.size + 1, 0, none⟩ .nilIface |>.putObj D (.deferred none)).cell? ⟨w.heap.size, 0, none⟩ = some (.slice A ts.length cp) :=
      (World.cell?_of_block (World.putObj_heap_other (by dsimp only; omega))).trans ((H2.out.set _).other (by omega) _).cell
    have x3 : ((W.setCell ⟨w.heap.size, 0, none⟩ (.slice A ts.length cp)).setCell ⟨w.heap.size + 1, 0, none⟩ .nilIface |>.putObj D (.deferred none)).cell? ⟨w.heap.size + 1, 0, none⟩ = some .nilIface :=
      (World.cell?_of_block (World.putObj_heap_other (by dsimp only; omega))).trans ((H3.out.other (by omega) _).set _).cell
    refine ⟨_, results_cc rfl _ _ (.slice A ts.length cp) .nilIface ⟨w.heap.size, 0, none⟩ ⟨w.heap.size + 1, 0, none⟩ rfl rfl (by simp [go_sem, x2]) (by simp [go_sem, x3]), ?_⟩
    show ScanAns w (scanL s.data.toList) _ _
    rw [HR.out]
    refine ⟨?_, _, ?_, rfl⟩
    · exact ((H6.out.setCell (p := ⟨w.heap.size, 0, none⟩) (Nat.le_refl _) _).setCell (p := ⟨w.heap.size + 1, 0, none⟩) (by simp) _).grown (grownBy_putObj' _ D _) (by have := H6.out.size; simp; omega) (fun k e => by cases e; omega)
    · have hlt := fun g e => (H5.out.lt g e).1
      refine row_base (base := w.heap.size + 4) (ownsRow_putObj ((H5.out.kept (grownBy_setCell' _ _ _) (.inr (fun e => by have := hlt _ e; omega))).kept (grownBy_setCell' _ _ _) (.inr (fun e => by have := hlt _ e; omega))) _ hK2 rfl) (by omega)
  case stop =>
    rintro D c pre W hD _ ⟨rfl, hX⟩ hK
    obtain ⟨c, a, b, hP, h2, h3, hb1, hb2, h6⟩ := hX
    have hR : scanL s.data.toList = ([], some (c, a)) := by unfold scanL; rw [hP]; rfl
    have HR := Lib.hid hR
    have H2 := Lib.hid h2
    have H3 := Lib.hid h3
    have H6 := Lib.hid h6
    have HK := Lib.hid hK
    have HD := Lib.hid hD
    have HB := Lib.hid hb2
    clear h2 h3 h6 hK hR hP hb2
    gi_wp2
    refine ⟨by simp, .inl ⟨_, _, rfl, run_takeDeferred HK.out, ?_⟩⟩
    have hDl := HD.out
    have x2 : (W.putObj D (.deferred none)).cell? ⟨w.heap.size, 0, none⟩ = some (.slice none 0 0) := (World.cell?_of_block (World.putObj_heap_other (by dsimp only; omega))).trans H2.out.cell
    have x3 : (W.putObj D (.deferred none)).cell? ⟨w.heap.size + 1, 0, none⟩ = some (.iface 47 (.pointer (some ⟨b, 0, none⟩))) := (World.cell?_of_block (World.putObj_heap_other (by dsimp only; omega))).trans H3.out.cell
    refine ⟨_, results_cc rfl _ _ (.slice none 0 0) (.iface 47 (.pointer (some ⟨b, 0, none⟩))) ⟨w.heap.size, 0, none⟩ ⟨w.heap.size + 1, 0, none⟩ rfl rfl (by simp [go_sem, x2]) (by simp [go_sem, x3]), ?_⟩
    show ScanAns w (scanL s.data.toList) _ _
    rw [HR.out]
    refine ⟨?_, b, rfl, hb1, ?_⟩
    · exact H6.out.grown (grownBy_putObj' _ D _) H6.out.size (fun k e => by cases e; omega)
    · refine (World.putObj_heap_other (fun e => ?_)).trans HB.out
      subst e
      have := HK.out.symm.trans HB.out
      cases this

end Go.Proofs.YthcdmnndhjbbfaaDoor.X
