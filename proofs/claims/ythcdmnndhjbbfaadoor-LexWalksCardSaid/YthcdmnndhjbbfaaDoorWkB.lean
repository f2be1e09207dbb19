/-
  The walk of LexWalks.
-/
import Derived.Test.YthcdmnndhjbbfaaDoorWkQ
import Derived.Sort.LoopGhostIn
set_option linter.unusedVariables false
set_option linter.unusedSimpArgs false
namespace Go.Proofs.YthcdmnndhjbbfaaDoor.X
open Go.RowKit
theorem run_store_fn (P : Program) (w : World) (a : Addr) (m : Mode) (g : Fn) (c l : Array Value) : (store a (.func g c l) m).run P w = stored P w a (.func g c l) m := run_store P w a _ m rfl
theorem eq_nilFn (w : World) (g : Fn) (c l : Array Value) : (binOp .eql 40 (.func g c l) .nilFunc).run Tryd.prog w = .ok (.bool false) w := by kernel_rfl
/-- The slots that the first loop writes. -/
structure Uv where
  u10 : Value
  u11 : Value
  u12 : Value
  u13 : Value
  u32 : Value
  u33 : Value
  u34 : Value
  u35 : Value
  u36 : Value
  u37 : Value
  u38 : Value
  u39 : Value
  u40 : Value
  u41 : Value
  u42 : Value
  u43 : Value
  u44 : Value
  u45 : Value
  u46 : Value
  u47 : Value
  u48 : Value
  u49 : Value
  u50 : Value
  u51 : Value
  u52 : Value
  u53 : Value
  u54 : Value
  u55 : Value
  u56 : Value
  u57 : Value
  u58 : Value
  u59 : Value
  u60 : Value
  u61 : Value
  u62 : Value
  u63 : Value
  u64 : Value
  u65 : Value
  u66 : Value
  u67 : Value
  u68 : Value
  u69 : Value
  u70 : Value
  u71 : Value
  u72 : Value
  u73 : Value
  u74 : Value
  u75 : Value
  u76 : Value
  u77 : Value
  u78 : Value
  u79 : Value
  u80 : Value
  u81 : Value
  u82 : Value
  u83 : Value
  u84 : Value
  u85 : Value
  u86 : Value
  u87 : Value
  u88 : Value
  u89 : Value
  u90 : Value
  u91 : Value
  u92 : Value
  u93 : Value
  u94 : Value
  u95 : Value
  u96 : Value
  u97 : Value
theorem walks_start {w w5 w2 : World} {E : Int} {Aw : Option Addr} {cw : Nat} {ts : List Tk} {f : Option (Int × Nat)} {s : ByteArray}
    (HF : Below ((w.alloc (.cells #[.int .i64 E] 3)).alloc (.cells #[.bool false] 4)).heap.size ((w.alloc (.cells #[.int .i64 E] 3)).alloc (.cells #[.bool false] 4)) w5) (HB : Below w5.heap.size w5 w2) (HO : TokSl w2 w5.heap.size (.slice Aw ts.length cw) ts)
    {W : World} (hW : ((((((w2.alloc (.cells #[.slice Aw ts.length cw] 33)).alloc (.cells #[.int .i64 (codeOf f)] 3)).alloc (.cells #[.int .i64 (placeOf f)] 3)).alloc (.cells #[.string s] 9)).alloc (.cells #[walkV (w2.heap.size + 3)] 40)).alloc (.cells #[.int .i64 0] 3)) = W) :
    Boxed W (w2.heap.size + 5) 3 (.int .i64 (0 : Nat)) ∧ RI w w2.heap.size E (.slice Aw ts.length cw) ts f s W.heap.size [] W := by
  have z5 := HF.size
  simp only [World.size_alloc] at z5
  have z2 := HB.size
  have hE : Boxed w2 w.heap.size 3 (.int .i64 E) := (HB.block _ (by omega)).trans ((HF.block _ (by simp; omega)).trans ((Boxed.new w 3 (.int .i64 E)).alloc _))
  have hR : Boxed w2 (w.heap.size + 1) 4 (.bool false) := (HB.block _ (by omega)).trans ((HF.block _ (by simp)).trans (by have h := Boxed.new (w.alloc (.cells #[.int .i64 E] 3)) 4 (.bool false); rw [World.size_alloc] at h; exact h))
  have hb0 : Below w.heap.size w w2 := ((((Below.refl _ w).alloc (Nat.le_refl _) _).alloc (by simp) _).trans (HF.mono (by simp; omega))).trans (HB.mono (by omega))
  have b0 := ((((Boxed.new w2 33 (.slice Aw ts.length cw)).alloc (.cells #[.int .i64 (codeOf f)] 3)).alloc (.cells #[.int .i64 (placeOf f)] 3)).alloc (.cells #[.string s] 9)).alloc (.cells #[walkV (w2.heap.size + 3)] 40) |>.alloc (.cells #[.int .i64 0] 3)
  have b1 := (((Boxed.new (w2.alloc (.cells #[.slice Aw ts.length cw] 33)) 3 (.int .i64 (codeOf f))).alloc (.cells #[.int .i64 (placeOf f)] 3)).alloc (.cells #[.string s] 9)).alloc (.cells #[walkV (w2.heap.size + 3)] 40) |>.alloc (.cells #[.int .i64 0] 3)
  have b2 := ((Boxed.new ((w2.alloc (.cells #[.slice Aw ts.length cw] 33)).alloc (.cells #[.int .i64 (codeOf f)] 3)) 3 (.int .i64 (placeOf f))).alloc (.cells #[.string s] 9)).alloc (.cells #[walkV (w2.heap.size + 3)] 40) |>.alloc (.cells #[.int .i64 0] 3)
  have b3 := (Boxed.new (((w2.alloc (.cells #[.slice Aw ts.length cw] 33)).alloc (.cells #[.int .i64 (codeOf f)] 3)).alloc (.cells #[.int .i64 (placeOf f)] 3)) 9 (.string s)).alloc (.cells #[walkV (w2.heap.size + 3)] 40) |>.alloc (.cells #[.int .i64 0] 3)
  have b4 := (Boxed.new ((((w2.alloc (.cells #[.slice Aw ts.length cw] 33)).alloc (.cells #[.int .i64 (codeOf f)] 3)).alloc (.cells #[.int .i64 (placeOf f)] 3)).alloc (.cells #[.string s] 9)) 40 (walkV (w2.heap.size + 3))) |>.alloc (.cells #[.int .i64 0] 3)
  have b5 := Boxed.new (((((w2.alloc (.cells #[.slice Aw ts.length cw] 33)).alloc (.cells #[.int .i64 (codeOf f)] 3)).alloc (.cells #[.int .i64 (placeOf f)] 3)).alloc (.cells #[.string s] 9)).alloc (.cells #[walkV (w2.heap.size + 3)] 40)) 3 (.int .i64 0)
  simp only [World.size_alloc] at b1 b2 b3 b4 b5
  have hB2 : Below w2.heap.size w2 W := by
    rw [← hW]
    exact ((((((Below.refl _ w2).alloc (Nat.le_refl _) _).alloc (by simp) _).alloc (by simp; omega) _).alloc (by simp; omega) _).alloc (by simp; omega) _).alloc (by simp; omega) _
  have hsz : W.heap.size = w2.heap.size + 6 := by rw [← hW]; simp
  rw [hW] at b0 b1 b2 b3 b4 b5
  refine ⟨b5, ⟨hb0.trans (hB2.mono hb0.size), by omega, by omega, (hB2.block _ hE.lt).trans hE, (hB2.block _ hR.lt).trans hR, b0, b1, b2, b3, b4, ?_, fun g hg => (HO.lt g hg).2⟩, fun d hd => by cases hd⟩
  refine row_base (base := w5.heap.size) ?_ (by omega)
  exact HO.kept (row := none) ⟨hB2.os, hB2.tape, hB2.output, hB2.size, fun i hi _ => hB2.block i hi⟩ (by cases Value.ownBlock _ <;> simp)
theorem hRI1_size {w : World} {D : Nat} {E : Int} {vw : Value} {ts : List Tk} {f : Option (Int × Nat)} {s : ByteArray} {B : Nat} {ds : List Nat} {W : World} (h : RI w D E vw ts f s B ds W) : w.heap.size ≤ W.heap.size := h.ws.bel.size
attribute [local go_sem] Oper.semAt_some run_store_fn eq_nilFn
set_option maxHeartbeats 8000000 in
set_option maxRecDepth 100000 in
theorem lexWalks_any (s : ByteArray) (E : Int) (w : World) (hs : s.size ≤ 140737488355328) (hL : LW w) :
    Calls Tryd.prog 5 #[.string s, .int .i64 E] w fun e w' => e = .returned (.bool true) ∧ Below w.heap.size w w' := by
  have HL := Lib.hid hL
  have hbig := hL.big
  have PC := Lib.hid (fun W => refPrefix_any s W (by omega))
  have HL0 := prefix_len s.data.toList
  have HCF : Hid (∀ c a, (prefixL s.data.toList).2 = some (c, a) → c ≠ 0) := Lib.hid (fun c a h => prefix_code (l := s.data.toList) (ts := (prefixL s.data.toList).1) (Prod.ext rfl h))
  have HNE : Hid ((prefixL s.data.toList).2 = none → (prefixL s.data.toList).1 ≠ []) := Lib.hid (fun h => prefix_ne (l := s.data.toList) (Prod.ext rfl h))
  obtain ⟨R, hR⟩ : ∃ R, R = prefixL s.data.toList := ⟨_, rfl⟩
  rw [← hR] at PC HL0 HCF HNE
  obtain ⟨ts, f⟩ := R
  have HP := Lib.hid hR.symm
  dsimp only at PC HL0 HCF HNE
  clear hR hL
  refine (callsIn_wide (n := 20)).1 ?_
  refine callsIn_of_wp_marks Tryd.func5 rfl trivial ?_ rfl
  simp only [Tryd.ntmps5, List.size_toArray, List.length_cons, List.length_nil, Nat.reduceAdd, Nat.reduceSub, Array.replicate_succ, Array.replicate_zero, List.push_toArray, List.append_toArray, List.nil_append, List.cons_append]
  gi_wp2_with (first
    | (refine ⟨trivial, ?_⟩; gi_at_call 22; refine (callsIn_wide.2 (each_any _ _)).mono ?_; rintro e w' ⟨rfl, rfl⟩)
    | (refine ⟨trivial, ?_⟩; gi_at_call 21; refine (callsIn_wide.2 (PC.out _)).mono ?_; rintro e w2 ⟨vw, hO, hB, rfl⟩; obtain ⟨Aw, cw, rfl⟩ := own_slice hO; have HO := Lib.hid hO; have HB := Lib.hid hB; clear hO hB; dsimp only)
    | (refine ⟨trivial, ?_⟩; gi_at_call 17; refine (callsIn_wide.2 (fixed_any _ (HL.out.below (((Below.refl _ w).alloc (Nat.le_refl _) _).alloc (by simp) _)))).mono ?_; rintro e w5 ⟨rfl, hF⟩; have HF := Lib.hid hF; clear hF))
  obtain ⟨W0, hW0⟩ : ∃ W0, ((((((w2.alloc (.cells #[.slice Aw ts.length cw] 33)).alloc (.cells #[.int .i64 (codeOf f)] 3)).alloc (.cells #[.int .i64 (placeOf f)] 3)).alloc (.cells #[.string s] 9)).alloc (.cells #[walkV (w2.heap.size + 3)] 40)).alloc (.cells #[.int .i64 0] 3)) = W0 := ⟨_, rfl⟩
  obtain ⟨hb0, hr0⟩ := walks_start HF.out HB.out HO.out hW0
  rw [show w2.heap.size + 3 = w2.heap.size + 1 + 1 + 1 from rfl] at hW0
  rw [hW0]
  clear hW0 HF HB HO
  have B0 := Lib.hid hb0
  have R0 := Lib.hid hr0
  clear hb0 hr0
  obtain ⟨D0, hD0⟩ : ∃ x, w2.heap.size = x := ⟨_, rfl⟩
  obtain ⟨D4, hD4⟩ : ∃ x, w2.heap.size + 1 + 1 + 1 + 1 = x := ⟨_, rfl⟩
  obtain ⟨D3, hD3⟩ : ∃ x, w2.heap.size + 1 + 1 + 1 = x := ⟨_, rfl⟩
  obtain ⟨D2, hD2⟩ : ∃ x, w2.heap.size + 1 + 1 = x := ⟨_, rfl⟩
  obtain ⟨D1, hD1⟩ : ∃ x, w2.heap.size + 1 = x := ⟨_, rfl⟩
  rw [hD4, hD3, hD2, hD1, hD0]
  rw [hD0] at hD1 hD2 hD3 hD4 B0 R0
  replace hD1 : D0 + 1 = D1 := hD1
  replace hD2 : D0 + 2 = D2 := hD2
  replace hD3 : D0 + 3 = D3 := hD3
  replace hD4 : D0 + 4 = D4 := hD4
  clear hD0
  refine wpIn_loop_ghost_k (fun n a W => ∃ (ds : List Nat) (bR r : Nat) (u : Uv), n + r = 3 ∧ a = { tmps := #[.string s, .int .i64 E, undef, .pointer (some ⟨w.heap.size, 0, none⟩), .pointer (some ⟨w.heap.size + 1, 0, none⟩), .pointer (some ⟨D0, 0, none⟩), .pointer (some ⟨D1, 0, none⟩), .pointer (some ⟨D2, 0, none⟩), .pointer (some ⟨D4, 0, none⟩), .pointer (some ⟨bR, 0, none⟩), u.u10, u.u11, u.u12, u.u13, undef, undef, undef, undef, undef, undef, .bool true, .bool false, .tuple #[.slice Aw ts.length cw, .int .i64 (codeOf f), .int .i64 (placeOf f)], .string s, .tuple #[.slice Aw ts.length cw, .int .i64 (codeOf f), .int .i64 (placeOf f)], .slice Aw ts.length cw, .int .i64 (codeOf f), .int .i64 (placeOf f), .string s, .func (.func 32) #[] #[.pointer (some ⟨D3, 0, none⟩)], .func (.func 32) #[] #[.pointer (some ⟨D3, 0, none⟩)], .bool false, u.u32, u.u33, u.u34, u.u35, u.u36, u.u37, u.u38, u.u39, u.u40, u.u41, u.u42, u.u43, u.u44, u.u45, u.u46, u.u47, u.u48, u.u49, u.u50, u.u51, u.u52, u.u53, u.u54, u.u55, u.u56, u.u57, u.u58, u.u59, u.u60, u.u61, u.u62, u.u63, u.u64, u.u65, u.u66, u.u67, u.u68, u.u69, u.u70, u.u71, u.u72, u.u73, u.u74, u.u75, u.u76, u.u77, u.u78, u.u79, u.u80, u.u81, u.u82, u.u83, u.u84, u.u85, u.u86, u.u87, u.u88, u.u89, u.u90, u.u91, u.u92, u.u93, u.u94, u.u95, u.u96, u.u97, undef, undef, undef, undef, undef, undef, undef, undef, undef, undef, undef, undef, undef, undef, undef, undef, undef, undef, undef, undef, undef, undef, undef, undef, undef, undef, undef, undef, undef, undef, undef, undef, undef, undef, undef, undef, undef, undef, undef, undef, undef, undef, undef, undef, undef, undef, undef, undef, undef, undef, undef, undef, undef, undef, undef, undef, undef, undef, undef, undef, undef, undef, undef, undef, undef, undef, undef, undef, undef, undef, undef, undef, undef, undef, undef, undef, undef, undef, undef, undef, undef, undef, undef, undef, undef, undef, undef, undef, undef, undef, undef, undef, undef], defers := ds.map mkD } ∧ ds.length = r ∧ GoodM w ds ∧ D0 + 5 ≤ bR ∧ Boxed W bR 3 (.int .i64 r) ∧ RI w D0 E (.slice Aw ts.length cw) ts f s W.heap.size ds W) 3 ⟨[], D0 + 5, 0, ⟨undef, undef, undef, undef, undef, undef, undef, undef, undef, undef, undef, undef, undef, undef, undef, undef, undef, undef, undef, undef, undef, undef, undef, undef, undef, undef, undef, undef, undef, undef, undef, undef, undef, undef, undef, undef, undef, undef, undef, undef, undef, undef, undef, undef, undef, undef, undef, undef, undef, undef, undef, undef, undef, undef, undef, undef, undef, undef, undef, undef, undef, undef, undef, undef, undef, undef, undef, undef, undef, undef⟩, rfl, by rw [← hD4]; rfl, rfl, ⟨List.nodup_nil, fun d hd => by cases hd⟩, Nat.le_refl _, B0.out, R0.out⟩ ?_
  clear B0 R0
  intro n a W hI J K hJ hK
  obtain ⟨ds, bR, r, u, hnr, rfl, hdl, hgood, hbR, hbx, hRI⟩ := hI
  have HJ := Lib.hid hJ
  have HK := Lib.hid hK
  clear hJ hK
  have HRI := Lib.hid hRI
  have HBX := Lib.hid hbx
  have HG := Lib.hid hgood
  clear hgood
  have hsz := hRI.ws.sz
  have hwD := hRI.ws.wD
  have c9 := hbx.cell
  have z9 := hbx.lt
  have ck : W.cell? ⟨D4, 0, none⟩ = some (.func (.func 32) #[] #[.pointer (some ⟨D3, 0, none⟩)]) := by rw [← hD4, ← hD3]; exact hRI.ws.ck.cell
  have zk : D4 < W.heap.size := by omega
  clear hRI hbx
  by_cases hlt : r < 3
  · have hI : (r : Int) < 3 := by omega
    gi_wp2
    obtain ⟨W1, hW1⟩ : ∃ W1, ((W.alloc (.cells #[.int .i64 0] 3)).alloc (.cells #[.bool false] 4)) = W1 := ⟨_, rfl⟩
    have hbW : Below W.heap.size W W1 := by rw [← hW1]; exact ((Below.refl _ W).alloc (Nat.le_refl _) _).alloc (by simp) _
    have hz1 : W1.heap.size = W.heap.size + 2 := by rw [← hW1]; simp
    have bk0 : Boxed W1 W.heap.size 3 (.int .i64 (0 : Nat)) := by rw [← hW1]; exact (Boxed.new W 3 (.int .i64 0)).alloc _
    have bd0 : Boxed W1 (W.heap.size + 1) 4 (.bool false) := by
      rw [← hW1]
      have h := Boxed.new (W.alloc (.cells #[.int .i64 0] 3)) 4 (.bool false)
      rw [World.size_alloc] at h
      exact h
    rw [hW1]
    clear hW1
    have br0 : Boxed W1 bR 3 (.int .i64 r) := (hbW.block _ z9).trans HBX.out
    have R1 : RI w D0 E (.slice Aw ts.length cw) ts f s W1.heap.size ds W1 := HRI.out.more hbW (by omega)
    have hI1 : I1 w D0 E (.slice Aw ts.length cw) ts f s W1.heap.size ds bR r W.heap.size (W.heap.size + 1) [] W1 := ⟨R1, br0, 0, false, bk0, bd0, St.begin HNE.out HCF.out⟩
    have hw1 := hRI1_size R1
    have hSeq := each1_seq 19 (by decide) s (by omega) D3 w.heap.size [W.heap.size, W.heap.size + 1] none W1 hbig hw1 (fun b hb => by simp at hb; omega) (fun B e => by cases e) (by rw [← hD3]; exact R1.ws.cS) (by simp; omega) (fun g e => by cases e) (HL.out.below R1.ws.bel)
    have HI1 := Lib.hid hI1
    clear bk0 bd0 br0 R1 hI1 hbW c9 ck zk
    refine range_it 12 13 37 38 s.data.toList W1.heap.size D3 w.heap.size [W.heap.size, W.heap.size + 1] rfl (by decide) rfl trivial hw1 hSeq
      (I1 w D0 E (.slice Aw ts.length cw) ts f s W1.heap.size ds bR r W.heap.size (W.heap.size + 1)) (fun c _ X => X1 w D0 E (.slice Aw ts.length cw) ts f s W1.heap.size ds bR r c X) (I1.own hw1) (fun c => X1.own c hw1) HI1.out (fun pre X h => h.ri.ws.bel.size)
      ?assign ?body ?done ?stop
    case assign =>
      rintro l' x X K2 hK2
      cases x with
      | tok t =>
        dsimp only [itV, itC, itE, tokV, tokCells] at hK2 ⊢
        simp only [frameIt, List.setIfInBounds_toArray, List.set_cons_succ, List.set_cons_zero] at hK2
        have HK2 := Lib.hid hK2
        clear hK2
        gi_wp2
        exact HK2.out
      | flt c a b =>
        dsimp only [itV, itC, itE] at hK2 ⊢
        simp only [frameIt, List.setIfInBounds_toArray, List.set_cons_succ, List.set_cons_zero] at hK2
        have HK2 := Lib.hid hK2
        clear hK2
        gi_wp2
        exact HK2.out
    case body =>
      intro l' pre x Bx X hl' hlr hI hBx hR
      have HI := Lib.hid hI
      obtain ⟨hri, hcr, k, d, hbk, hbd, hst⟩ := hI
      have cK := hbk.cell
      have zK := hbk.lt
      have fK := hbk.frozen
      have cD := hbd.cell
      have zD := hbd.lt
      have fD := hbd.frozen
      have cR := hcr.cell
      have zR := hcr.lt
      have cE := hri.ws.cE.cell
      have zE := hri.ws.cE.lt
      have ce : X.cell? ⟨D1, 0, none⟩ = some (.int .i64 (codeOf f)) := by rw [← hD1]; exact hri.ws.ce.cell
      have ze := World.block_lt_of_cell? _ _ ce
      have cW := hri.ws.cW.cell
      have zW := hri.ws.cW.lt
      have zB := (Array.getElem?_eq_some_iff.1 hBx).1
      have HBK := Lib.hid hbk
      have HBD := Lib.hid hbd
      cases x with
      | tok t =>
        obtain ⟨hk, ht, rfl, hst'⟩ := hst.tok HP.out hR
        have HT := Lib.hid (tokAt_of_own hri.ws.tw)
        obtain ⟨g, hA, hgz, hcl⟩ : ∃ g, Aw = some ⟨g, 0, none⟩ ∧ g < X.heap.size ∧ ∀ j u, (tokCells t).toList[j]? = some u → X.cell? ⟨g, k * 5 + j, none⟩ = some u := by
          rcases HT.out with ⟨_, h2⟩ | ⟨g, cap, h1, h2, h3⟩
          · rw [h2] at hk; exact absurd hk (Nat.not_lt_zero _)
          · injection h1 with e1 _ _
            exact ⟨g, e1, h2, fun j u hu => h3 k hk j u (by rw [ht]; exact hu)⟩
        subst hA
        have y0 : X.cell? ⟨Bx, 0, none⟩ = some (.int .i64 t.kind) := (Lib.cell_of_heap hBx _).trans rfl
        have y1 : X.cell? ⟨Bx, 1, none⟩ = some (.string ⟨t.text.toArray⟩) := (Lib.cell_of_heap hBx _).trans rfl
        have y2 : X.cell? ⟨Bx, 2, none⟩ = some (.int .i64 t.num) := (Lib.cell_of_heap hBx _).trans rfl
        have y3 : X.cell? ⟨Bx, 3, none⟩ = some (.int .i64 t.at_) := (Lib.cell_of_heap hBx _).trans rfl
        have y4 : X.cell? ⟨Bx, 4, none⟩ = some (.int .i64 t.end_) := (Lib.cell_of_heap hBx _).trans rfl
        have x0 : X.cell? ⟨g, k * 5, none⟩ = some (.int .i64 t.kind) := hcl 0 _ rfl
        have x1 : X.cell? ⟨g, k * 5 + 1, none⟩ = some (.string ⟨t.text.toArray⟩) := hcl 1 _ rfl
        have x2 : X.cell? ⟨g, k * 5 + 2, none⟩ = some (.int .i64 t.num) := hcl 2 _ rfl
        have x3 : X.cell? ⟨g, k * 5 + 3, none⟩ = some (.int .i64 t.at_) := hcl 3 _ rfl
        have x4 : X.cell? ⟨g, k * 5 + 4, none⟩ = some (.int .i64 t.end_) := hcl 4 _ rfl
        have NT : ∀ W, (binOp .neq 44 (.agg #[.int .i64 t.kind, .string ⟨t.text.toArray⟩, .int .i64 t.num, .int .i64 t.at_, .int .i64 t.end_]) (.agg #[.int .i64 t.kind, .string ⟨t.text.toArray⟩, .int .i64 t.num, .int .i64 t.at_, .int .i64 t.end_])).run Tryd.prog W = .ok (.bool false) W := fun W => by rw [run_neq_tok t t W, decide_eq_true rfl]; rfl
        have hKI : (k : Int) < (ts.length : Int) := by omega
        have hKI2 : ¬ (ts.length : Int) ≤ (k : Int) := by omega
        have hKN : decide (ts.length ≤ k) = false := decide_eq_false (by omega)
        simp only [frameIt, List.setIfInBounds_toArray, List.set_cons_succ, List.set_cons_zero, itC, itE, tokCells]
        clear hst hR hri hcr hbk hbd hcl hBx hlr hl' HT ht
        by_cases hc0 : codeOf f = 0
        · have he : (codeOf f == 0) = true := by simpa using hc0
          by_cases hk1 : k + 1 = ts.length
          · have hkl : ((k : Int) + 1 == (ts.length : Int)) = true := by simp; omega
            rw [show decide (codeOf f = 0 ∧ k + 1 = ts.length) = true from decide_eq_true ⟨hc0, hk1⟩] at hst'
            have HST := Lib.hid hst'
            clear hst'
            by_cases hr1 : r = 1
            · have hr2 : ((r : Int) == 1) = true := by simp; omega
              by_cases hE : E ≤ (k : Int) + 1
              · clear hc0
                gi_wp2
                refine region_quietR (by kernel_rfl) (by kernel_rfl) (by kernel_rfl) ?_
                repeat (gi_big_quiet_step (fail))
                refine wpQuietIn_nil ?_
                intro _ hw'
                obtain ⟨nq, hw''⟩ := hw'
                subst hw''
                gi_wp2
                exact I1.stop HI.out (two_set HBK.out HBD.out (by omega) nq _ _).1 hr1 (by omega) (by omega) (by omega) (by omega)
              · clear hc0
                gi_wp2
                refine region_quietR (by kernel_rfl) (by kernel_rfl) (by kernel_rfl) ?_
                repeat (gi_big_quiet_step (fail))
                refine wpQuietIn_nil ?_
                intro _ hw'
                obtain ⟨nq, hw''⟩ := hw'
                subst hw''
                gi_wp2
                exact I1.step HI.out (two_set HBK.out HBD.out (by omega) nq _ _).1 (two_set HBK.out HBD.out (by omega) nq _ _).2.1 (two_set HBK.out HBD.out (by omega) nq _ _).2.2 HST.out (by omega) (by omega) (by omega) (by omega)
            · have hr2 : ((r : Int) == 1) = false := by simp; omega
              clear hc0
              gi_wp2
              refine region_quietR (by kernel_rfl) (by kernel_rfl) (by kernel_rfl) ?_
              repeat (gi_big_quiet_step (fail))
              refine wpQuietIn_nil ?_
              intro _ hw'
              obtain ⟨nq, hw''⟩ := hw'
              subst hw''
              gi_wp2
              exact I1.step HI.out (two_set HBK.out HBD.out (by omega) nq _ _).1 (two_set HBK.out HBD.out (by omega) nq _ _).2.1 (two_set HBK.out HBD.out (by omega) nq _ _).2.2 HST.out (by omega) (by omega) (by omega) (by omega)
          · have hkl : ((k : Int) + 1 == (ts.length : Int)) = false := by simp; omega
            rw [show decide (codeOf f = 0 ∧ k + 1 = ts.length) = false from decide_eq_false (fun h => hk1 h.2)] at hst'
            have HST := Lib.hid hst'
            clear hst'
            by_cases hr1 : r = 1
            · have hr2 : ((r : Int) == 1) = true := by simp; omega
              by_cases hE : E ≤ (k : Int) + 1
              · clear hc0
                gi_wp2
                refine region_quietR (by kernel_rfl) (by kernel_rfl) (by kernel_rfl) ?_
                repeat (gi_big_quiet_step (fail))
                refine wpQuietIn_nil ?_
                intro _ hw'
                obtain ⟨nq, hw''⟩ := hw'
                subst hw''
                gi_wp2
                exact I1.stop HI.out (two_set HBK.out HBD.out (by omega) nq _ _).1 hr1 (by omega) (by omega) (by omega) (by omega)
              · clear hc0
                gi_wp2
                refine region_quietR (by kernel_rfl) (by kernel_rfl) (by kernel_rfl) ?_
                repeat (gi_big_quiet_step (fail))
                refine wpQuietIn_nil ?_
                intro _ hw'
                obtain ⟨nq, hw''⟩ := hw'
                subst hw''
                gi_wp2
                exact I1.step HI.out (two_set HBK.out HBD.out (by omega) nq _ _).1 (two_set HBK.out HBD.out (by omega) nq _ _).2.1 (two_set HBK.out HBD.out (by omega) nq _ _).2.2 HST.out (by omega) (by omega) (by omega) (by omega)
            · have hr2 : ((r : Int) == 1) = false := by simp; omega
              clear hc0
              gi_wp2
              refine region_quietR (by kernel_rfl) (by kernel_rfl) (by kernel_rfl) ?_
              repeat (gi_big_quiet_step (fail))
              refine wpQuietIn_nil ?_
              intro _ hw'
              obtain ⟨nq, hw''⟩ := hw'
              subst hw''
              gi_wp2
              exact I1.step HI.out (two_set HBK.out HBD.out (by omega) nq _ _).1 (two_set HBK.out HBD.out (by omega) nq _ _).2.1 (two_set HBK.out HBD.out (by omega) nq _ _).2.2 HST.out (by omega) (by omega) (by omega) (by omega)
        · have he : (codeOf f == 0) = false := by simpa using hc0
          rw [show decide (codeOf f = 0 ∧ k + 1 = ts.length) = false from decide_eq_false (fun h => hc0 h.1)] at hst'
          have HST := Lib.hid hst'
          clear hst'
          by_cases hr1 : r = 1
          · have hr2 : ((r : Int) == 1) = true := by simp; omega
            by_cases hE : E ≤ (k : Int) + 1
            · clear hc0
              gi_wp2
              refine region_quietR (by kernel_rfl) (by kernel_rfl) (by kernel_rfl) ?_
              repeat (gi_big_quiet_step (fail))
              refine wpQuietIn_nil ?_
              intro _ hw'
              obtain ⟨nq, hw''⟩ := hw'
              subst hw''
              gi_wp2
              exact I1.stop HI.out (two_set HBK.out HBD.out (by omega) nq _ _).1 hr1 (by omega) (by omega) (by omega) (by omega)
            · clear hc0
              gi_wp2
              refine region_quietR (by kernel_rfl) (by kernel_rfl) (by kernel_rfl) ?_
              repeat (gi_big_quiet_step (fail))
              refine wpQuietIn_nil ?_
              intro _ hw'
              obtain ⟨nq, hw''⟩ := hw'
              subst hw''
              gi_wp2
              exact I1.step HI.out (two_set HBK.out HBD.out (by omega) nq _ _).1 (two_set HBK.out HBD.out (by omega) nq _ _).2.1 (two_set HBK.out HBD.out (by omega) nq _ _).2.2 HST.out (by omega) (by omega) (by omega) (by omega)
          · have hr2 : ((r : Int) == 1) = false := by simp; omega
            clear hc0
            gi_wp2
            refine region_quietR (by kernel_rfl) (by kernel_rfl) (by kernel_rfl) ?_
            repeat (gi_big_quiet_step (fail))
            refine wpQuietIn_nil ?_
            intro _ hw'
            obtain ⟨nq, hw''⟩ := hw'
            subst hw''
            gi_wp2
            exact I1.step HI.out (two_set HBK.out HBD.out (by omega) nq _ _).1 (two_set HBK.out HBD.out (by omega) nq _ _).2.1 (two_set HBK.out HBD.out (by omega) nq _ _).2.2 HST.out (by omega) (by omega) (by omega) (by omega)
      | flt c a b =>
        obtain ⟨hk, hf, rfl, hF, hst'⟩ := hst.flt HP.out HCF.out hR
        subst hk
        have hc0 : c ≠ 0 := HCF.out c a hf
        have he : (codeOf f == 0) = false := by rw [hf]; simpa [codeOf] using hc0
        have HIF : Hid (∀ W, W.heap[b]? = some (faultObj c a) → CallsIn (Fence.wide.inRound l') (18 - 1) Tryd.prog 16 #[.iface 47 (.pointer (some ⟨b, 0, none⟩)), .int .i64 (codeOf f), .int .i64 (placeOf f)] W fun e w' => e = .returned (.bool true) ∧ W = w') := Lib.hid (fun W h => by rw [hf]; exact callsIn_wide.2 (isFault_some b c a hc0 W h))
        have HFX := Lib.hid hF
        have ca : X.cell? ⟨D2, 0, none⟩ = some (.int .i64 (placeOf f)) := by rw [← hD2]; exact hri.ws.ca.cell
        have za := World.block_lt_of_cell? _ _ ca
        have y0 : X.cell? ⟨Bx, 0, none⟩ = some (.int .i64 0) := (Lib.cell_of_heap hBx _).trans rfl
        have y1 : X.cell? ⟨Bx, 1, none⟩ = some (.string ⟨#[]⟩) := (Lib.cell_of_heap hBx _).trans rfl
        have y2 : X.cell? ⟨Bx, 2, none⟩ = some (.int .i64 0) := (Lib.cell_of_heap hBx _).trans rfl
        have y3 : X.cell? ⟨Bx, 3, none⟩ = some (.int .i64 0) := (Lib.cell_of_heap hBx _).trans rfl
        have y4 : X.cell? ⟨Bx, 4, none⟩ = some (.int .i64 0) := (Lib.cell_of_heap hBx _).trans rfl
        have NT : ∀ W, (binOp .neq 44 (.agg #[.int .i64 0, .string ⟨#[]⟩, .int .i64 0, .int .i64 0, .int .i64 0]) (.agg #[.int .i64 0, .string ⟨#[]⟩, .int .i64 0, .int .i64 0, .int .i64 0])).run Tryd.prog W = .ok (.bool false) W := fun W => by have h := run_neq_tok ⟨0, [], 0, 0, 0⟩ ⟨0, [], 0, 0, 0⟩ W; rw [decide_eq_true rfl] at h; exact h
        have HST := Lib.hid hst'
        simp only [frameIt, List.setIfInBounds_toArray, List.set_cons_succ, List.set_cons_zero, itC, itE, tokCells]
        clear hst hst' hR hri hcr hbk hbd hBx hlr hl' hF hf hc0
        by_cases hr1 : r = 1
        · have hr2 : ((r : Int) == 1) = true := by simp; omega
          by_cases hE : E ≤ (ts.length : Int)
          · skip
            gi_wp2_with (refine ⟨trivial, ?_⟩; gi_at_call 16; refine (HIF.out _ HFX.out).mono ?_; rintro e w6 ⟨rfl, rfl⟩)
            exact I1.stop HI.out (one_set HBD.out _).1 hr1 (by omega) (by omega) (by omega) (by omega)
          · skip
            gi_wp2_with (refine ⟨trivial, ?_⟩; gi_at_call 16; refine (HIF.out _ HFX.out).mono ?_; rintro e w6 ⟨rfl, rfl⟩)
            exact I1.step HI.out (one_set HBD.out _).1 (HBK.out.other (by omega) _) (one_set (bK := W.heap.size) HBD.out _).2 HST.out (by omega) (by omega) (by omega) (by omega)
        · have hr2 : ((r : Int) == 1) = false := by simp; omega
          gi_wp2_with (refine ⟨trivial, ?_⟩; gi_at_call 16; refine (HIF.out _ HFX.out).mono ?_; rintro e w6 ⟨rfl, rfl⟩)
          exact I1.step HI.out (one_set HBD.out _).1 (HBK.out.other (by omega) _) (one_set (bK := W.heap.size) HBD.out _).2 HST.out (by omega) (by omega) (by omega) (by omega)
    case done =>
      intro Dm xs X hD hS hI hK3
      obtain ⟨hri, hcr, k, d, hbk, hbd, hst⟩ := hI
      obtain rfl := hst.fin HP.out hS
      have cR := hcr.cell
      have zR := hcr.lt
      have cD := hbd.cell
      have zD := hbd.lt
      have HR2 := Lib.hid hri
      have HM := Lib.hid hK3
      have hDx := (Array.getElem?_eq_some_iff.1 hK3).1
      clear hri hcr hbk hbd hst hS hK3
      by_cases hr1 : r = 1
      · subst hr1
        have hr2 : (((1 : Nat) : Int) == 1) = true := rfl
        have hr3 : (((1 : Nat) : Int) != 1) = false := rfl
        gi_wp2
        exact HK.out _ _ (Handed.intro (n - 1) (by omega) (HJ.out _ _ _ ⟨Dm :: ds, X.heap.size, 2, ⟨_, _, _, _, _, _, _, _, _, _, _, _, _, _, _, _, _, _, _, _, _, _, _, _, _, _, _, _, _, _, _, _, _, _, _, _, _, _, _, _, _, _, _, _, _, _, _, _, _, _, _, _, _, _, _, _, _, _, _, _, _, _, _, _, _, _, _, _, _, _⟩, by omega, rfl, by simp [hdl], HG.out.cons (fun d h => (HR2.out.mks d h).1) hD (by omega), by omega, Boxed.new X 3 (.int .i64 2), RI.more (RI.mark HR2.out (show W1.heap.size ≤ X.heap.size by omega) HM.out hDx) ((Below.refl _ X).alloc (Nat.le_refl _) _) (by simp)⟩))
      · have hr2 : ((r : Int) == 1) = false := by simp; omega
        have hr3 : ((r : Int) != 1) = true := by simp; omega
        gi_wp2
        exact HK.out _ _ (Handed.intro (n - 1) (by omega) (HJ.out _ _ _ ⟨Dm :: ds, X.heap.size, r + 1, ⟨_, _, _, _, _, _, _, _, _, _, _, _, _, _, _, _, _, _, _, _, _, _, _, _, _, _, _, _, _, _, _, _, _, _, _, _, _, _, _, _, _, _, _, _, _, _, _, _, _, _, _, _, _, _, _, _, _, _, _, _, _, _, _, _, _, _, _, _, _, _⟩, by omega, rfl, by simp [hdl], HG.out.cons (fun d h => (HR2.out.mks d h).1) hD (by omega), by omega, Boxed.new X 3 (.int .i64 ((r + 1 : Nat) : Int)), RI.more (RI.mark HR2.out (show W1.heap.size ≤ X.heap.size by omega) HM.out hDx) ((Below.refl _ X).alloc (Nat.le_refl _) _) (by simp)⟩))
    case stop =>
      rintro Dm c pre X hD ⟨rfl, hr1, hri, hcr⟩ hK3
      have cR := hcr.cell
      have zR := hcr.lt
      have HR2 := Lib.hid hri
      have HM := Lib.hid hK3
      have hDx := (Array.getElem?_eq_some_iff.1 hK3).1
      clear hri hcr hK3
      subst hr1
      have hr2 : (((1 : Nat) : Int) == 1) = true := rfl
      have hr3 : (((1 : Nat) : Int) != 1) = false := rfl
      gi_wp2
      exact HK.out _ _ (Handed.intro (n - 1) (by omega) (HJ.out _ _ _ ⟨Dm :: ds, X.heap.size, 2, ⟨_, _, _, _, _, _, _, _, _, _, _, _, _, _, _, _, _, _, _, _, _, _, _, _, _, _, _, _, _, _, _, _, _, _, _, _, _, _, _, _, _, _, _, _, _, _, _, _, _, _, _, _, _, _, _, _, _, _, _, _, _, _, _, _, _, _, _, _, _, _⟩, by omega, rfl, by simp [hdl], HG.out.cons (fun d h => (HR2.out.mks d h).1) hD (by omega), by omega, Boxed.new X 3 (.int .i64 2), RI.more (RI.mark HR2.out (show W1.heap.size ≤ X.heap.size by omega) HM.out hDx) ((Below.refl _ X).alloc (Nat.le_refl _) _) (by simp)⟩))
  · obtain rfl : r = 3 := by omega
    have hI : ¬ ((3 : Nat) : Int) < 3 := by omega
    gi_wp2
    obtain ⟨W1, hW1⟩ : ∃ W1, W.alloc (.cells #[.int .i64 0] 3) = W1 := ⟨_, rfl⟩
    have hbW : Below W.heap.size W W1 := by rw [← hW1]; exact (Below.refl _ W).alloc (Nat.le_refl _) _
    have hz1 : W1.heap.size = W.heap.size + 1 := by rw [← hW1]; simp
    have bk0 : Boxed W1 W.heap.size 3 (.int .i64 (0 : Nat)) := by rw [← hW1]; exact Boxed.new W 3 (.int .i64 0)
    rw [hW1]
    clear hW1
    have R1 : RI w D0 E (.slice Aw ts.length cw) ts f s W1.heap.size ds W1 := HRI.out.more hbW (by omega)
    have hI2 : I2 w D0 E (.slice Aw ts.length cw) ts f s W1.heap.size ds W.heap.size [] W1 := ⟨R1, bk0, Pre.begin _ _⟩
    have hw1 := hRI1_size R1
    have hSeq := each1_seq 19 (by decide) s (by omega) D3 w.heap.size [W.heap.size] none W1 hbig hw1 (fun b hb => by simp at hb; omega) (fun B e => by cases e) (by rw [← hD3]; exact R1.ws.cS) (by simp; omega) (fun g e => by cases e) (HL.out.below R1.ws.bel)
    have HI2 := Lib.hid hI2
    clear bk0 R1 hI2 hbW c9 ck zk hz1
    refine range_it 15 16 99 100 s.data.toList W1.heap.size D3 w.heap.size [W.heap.size] rfl (by decide) rfl trivial hw1 hSeq
      (I2 w D0 E (.slice Aw ts.length cw) ts f s W1.heap.size ds W.heap.size) (fun _ _ _ => False) (I2.own hw1) (fun c => fun _ _ _ _ h _ _ => h) HI2.out (fun pre X h => h.ri.ws.bel.size)
      ?assign ?body ?done ?stop
    case assign =>
      rintro l' x X K2 hK2
      cases x with
      | tok t =>
        dsimp only [itV, itC, itE, tokV, tokCells] at hK2 ⊢
        simp only [frameIt, List.setIfInBounds_toArray, List.set_cons_succ, List.set_cons_zero] at hK2
        have HK2 := Lib.hid hK2
        clear hK2
        gi_wp2
        exact HK2.out
      | flt c a b =>
        dsimp only [itV, itC, itE] at hK2 ⊢
        simp only [frameIt, List.setIfInBounds_toArray, List.set_cons_succ, List.set_cons_zero] at hK2
        have HK2 := Lib.hid hK2
        clear hK2
        gi_wp2
        exact HK2.out
    case body =>
      intro l' pre x Bx X hl' hlr hI hBx hR
      have HI := Lib.hid hI
      have HLR := Lib.hid hlr
      have RIX := Lib.hid hI.ri
      have HCK := Lib.hid hI.ck
      have cK := hI.ck.cell
      have zK := hI.ck.lt
      have fK := hI.ck.frozen
      have cW := hI.ri.ws.cW.cell
      have zW := hI.ri.ws.cW.lt
      have cw4 : X.cell? ⟨D4, 0, none⟩ = some (.func (.func 32) #[] #[.pointer (some ⟨D3, 0, none⟩)]) := by rw [← hD4, ← hD3]; exact hI.ri.ws.ck.cell
      have zw4 := World.block_lt_of_cell? _ _ cw4
      have zB := (Array.getElem?_eq_some_iff.1 hBx).1
      have hXw := hI.ri.ws.bel.size
      cases x with
      | tok t =>
        obtain ⟨hk, ht, hpo⟩ := hI.pre.tok HP.out hR
        have HPO := Lib.hid hpo
        have HTX := Lib.hid (tokAt_of_own RIX.out.ws.tw)
        obtain ⟨g, hA, hgz, hcl⟩ : ∃ g, Aw = some ⟨g, 0, none⟩ ∧ g < X.heap.size ∧ ∀ j u, (tokCells t).toList[j]? = some u → X.cell? ⟨g, pre.length * 5 + j, none⟩ = some u := by
          rcases HTX.out with ⟨_, h2⟩ | ⟨g, cap, h1, h2, h3⟩
          · rw [h2] at hk; exact absurd hk (Nat.not_lt_zero _)
          · injection h1 with e1 _ _
            exact ⟨g, e1, h2, fun j u hu => h3 _ hk j u (by rw [ht]; exact hu)⟩
        have y0 : X.cell? ⟨Bx, 0, none⟩ = some (.int .i64 t.kind) := (Lib.cell_of_heap hBx _).trans rfl
        have y1 : X.cell? ⟨Bx, 1, none⟩ = some (.string ⟨t.text.toArray⟩) := (Lib.cell_of_heap hBx _).trans rfl
        have y2 : X.cell? ⟨Bx, 2, none⟩ = some (.int .i64 t.num) := (Lib.cell_of_heap hBx _).trans rfl
        have y3 : X.cell? ⟨Bx, 3, none⟩ = some (.int .i64 t.at_) := (Lib.cell_of_heap hBx _).trans rfl
        have y4 : X.cell? ⟨Bx, 4, none⟩ = some (.int .i64 t.end_) := (Lib.cell_of_heap hBx _).trans rfl
        have x0 : X.cell? ⟨g, pre.length * 5, none⟩ = some (.int .i64 t.kind) := hcl 0 _ rfl
        have x1 : X.cell? ⟨g, pre.length * 5 + 1, none⟩ = some (.string ⟨t.text.toArray⟩) := hcl 1 _ rfl
        have x2 : X.cell? ⟨g, pre.length * 5 + 2, none⟩ = some (.int .i64 t.num) := hcl 2 _ rfl
        have x3 : X.cell? ⟨g, pre.length * 5 + 3, none⟩ = some (.int .i64 t.at_) := hcl 3 _ rfl
        have x4 : X.cell? ⟨g, pre.length * 5 + 4, none⟩ = some (.int .i64 t.end_) := hcl 4 _ rfl
        have NT : ∀ W, (binOp .neq 44 (.agg #[.int .i64 t.kind, .string ⟨t.text.toArray⟩, .int .i64 t.num, .int .i64 t.at_, .int .i64 t.end_]) (.agg #[.int .i64 t.kind, .string ⟨t.text.toArray⟩, .int .i64 t.num, .int .i64 t.at_, .int .i64 t.end_])).run Tryd.prog W = .ok (.bool false) W := fun W => by rw [run_neq_tok t t W, decide_eq_true rfl]; rfl
        have hKI : (pre.length : Int) < (ts.length : Int) := by omega
        have hKI2 : ¬ (ts.length : Int) ≤ (pre.length : Int) := by omega
        have hKN : decide (ts.length ≤ pre.length) = false := decide_eq_false (by omega)
        have hKC : (ts.length : Int) + 1 < (pre.length : Int) + 1 → False := fun h => by omega
        have hKC2 : ¬ (ts.length : Int) + 1 < (pre.length : Int) + 1 := hKC
        rw [hA] at cW
        simp only [frameIt, List.setIfInBounds_toArray, List.set_cons_succ, List.set_cons_zero, itC, itE, tokCells]
        clear hpo hI hR hcl hBx HTX ht hA hlr hKC
        gi_wp2
        refine region_quietR (by kernel_rfl) (by kernel_rfl) (by kernel_rfl) ?_
        repeat (gi_big_quiet_step (fail))
        refine wpQuietIn_nil ?_
        intro _ hw'
        obtain ⟨nq, hw''⟩ := hw'
        subst hw''
        obtain ⟨X1, hX1⟩ : ∃ X1, X.drewN nq = X1 := ⟨_, rfl⟩
        rw [hX1]
        have hb1 : Below X.heap.size X X1 := by rw [← hX1]; exact below_drewN (Below.refl _ _) nq
        clear hX1
        have HB1 := Lib.hid hb1
        have RIX1 := Lib.hid (RIX.out.more hb1 (Nat.le_refl _))
        have HCK1 : Hid (Boxed X1 W.heap.size 3 (.int .i64 (pre.length : Nat))) := Lib.hid ((hb1.block _ HCK.out.lt).trans HCK.out)
        have cw5 : X1.cell? ⟨D4, 0, none⟩ = some (.func (.func 32) #[] #[.pointer (some ⟨D3, 0, none⟩)]) := (hb1.cell (p := ⟨D4, 0, none⟩) zw4).trans cw4
        have zw5 := World.block_lt_of_cell? _ _ cw5
        have hD5 := RIX1.out.ws.sz
        obtain ⟨r0, hlr⟩ := HLR.out
        have HLR1 : Hid (X1.heap[l']? = some (.loop r0)) := Lib.hid ((hb1.block _ (Array.getElem?_eq_some_iff.1 hlr).1).trans hlr)
        have zkX := HCK1.out.lt
        have hX8 : 8 < X1.heap.size := by have := hb1.size; omega
        clear hb1 hlr
        gi_wp2
        obtain ⟨Wi, hWi⟩ : ∃ Wi, X1.alloc (.cells #[.int .i64 0] 3) = Wi := ⟨_, rfl⟩
        have hbX : Below X1.heap.size X1 Wi := by rw [← hWi]; exact (Below.refl _ X1).alloc (Nat.le_refl _) _
        have hzi : Wi.heap.size = X1.heap.size + 1 := by rw [← hWi, World.size_alloc]
        have bi0 : Boxed Wi X1.heap.size 3 (.int .i64 (0 : Nat)) := by rw [← hWi]; exact Boxed.new X1 3 (.int .i64 0)
        rw [hWi]
        clear hWi
        have hlw : Wi.heap[l']? = some (.loop r0) := (hbX.block _ (Array.getElem?_eq_some_iff.1 HLR1.out).1).trans HLR1.out
        have RIW := Lib.hid (RIX1.out.more hbX (Nat.le_refl _))
        have hI30 : I3 X1 ts f [] Wi := ⟨hbX, bi0, Pre.begin _ _⟩
        have hSeq2 := each1_seq 17 (by decide) s (by omega) D3 X1.heap.size [X1.heap.size] none Wi hX8 (by omega) (fun b hb => by simp at hb; omega) (fun B e => by cases e) (by rw [← hD3]; exact RIW.out.ws.cS) (by simp; omega) (fun g e => by cases e) (HL.out.below RIW.out.ws.bel)
        clear cw5 zw5
        refine range_itN 18 19 128 129 s.data.toList Wi.heap.size D3 X1.heap.size [X1.heap.size] rfl hlw (by decide) rfl trivial (by omega) (Below.refl _ _) (SeqR.inRound l' hSeq2) (I3 X1 ts f) (fun c _ Y => X3 X1 c Y) (I3.own (by omega)) (fun c => X3.own c (by omega)) hI30 (fun pre Y h => h.bel.size) ?assign2 ?body2 ?done2 ?stop2
        case assign2 =>
          rintro l' x X K2 hK2
          cases x with
          | tok t =>
            dsimp only [itV, itC, itE, tokV, tokCells] at hK2 ⊢
            simp only [frameIt, List.setIfInBounds_toArray, List.set_cons_succ, List.set_cons_zero] at hK2
            have HK2 := Lib.hid hK2
            clear hK2
            gi_wp2
            exact HK2.out
          | flt c a b =>
            dsimp only [itV, itC, itE] at hK2 ⊢
            simp only [frameIt, List.setIfInBounds_toArray, List.set_cons_succ, List.set_cons_zero] at hK2
            have HK2 := Lib.hid hK2
            clear hK2
            gi_wp2
            exact HK2.out
        case body2 =>
          intro l2 pre2 x2 By Y hl2 hlr2 hI3 hBy hR2
          have HI3 := Lib.hid hI3
          have RIY := Lib.hid (RIX1.out.more hI3.bel (Nat.le_refl _))
          have hYX := hI3.bel.size
          have ci := hI3.ci.cell
          have zi := hI3.ci.lt
          have fi := hI3.ci.frozen
          have ck2 : Y.cell? ⟨W.heap.size, 0, none⟩ = some (.int .i64 (pre.length : Nat)) := (hI3.bel.cell (p := ⟨W.heap.size, 0, none⟩) HCK1.out.lt).trans HCK1.out.cell
          have zk2 := World.block_lt_of_cell? _ _ ck2
          have cW := RIY.out.ws.cW.cell
          have zW := RIY.out.ws.cW.lt
          have zBy := (Array.getElem?_eq_some_iff.1 hBy).1
          have hPL : pre2.length ≤ ts.length + 1 := by
            rcases hI3.pre with ⟨us, rfl, _, h⟩ | ⟨c, a, b, rfl, _⟩
            · rw [List.length_map]; omega
            · rw [List.length_append, List.length_map]; simp
          cases x2 with
          | tok t2 =>
            obtain ⟨hk, ht, hpp⟩ := hI3.pre.tok HP.out hR2
            have HPP := Lib.hid hpp
            have HTY := Lib.hid (tokAt_of_own RIY.out.ws.tw)
            obtain ⟨g, hA, hgz, hcl⟩ : ∃ g, Aw = some ⟨g, 0, none⟩ ∧ g < Y.heap.size ∧ ∀ j u, (tokCells t2).toList[j]? = some u → Y.cell? ⟨g, pre2.length * 5 + j, none⟩ = some u := by
              rcases HTY.out with ⟨_, h2⟩ | ⟨g, cap, h1, h2, h3⟩
              · rw [h2] at hk; exact absurd hk (Nat.not_lt_zero _)
              · injection h1 with e1 _ _
                exact ⟨g, e1, h2, fun j u hu => h3 _ hk j u (by rw [ht]; exact hu)⟩
            have y0 : Y.cell? ⟨By, 0, none⟩ = some (.int .i64 t2.kind) := (Lib.cell_of_heap hBy _).trans rfl
            have y1 : Y.cell? ⟨By, 1, none⟩ = some (.string ⟨t2.text.toArray⟩) := (Lib.cell_of_heap hBy _).trans rfl
            have y2 : Y.cell? ⟨By, 2, none⟩ = some (.int .i64 t2.num) := (Lib.cell_of_heap hBy _).trans rfl
            have y3 : Y.cell? ⟨By, 3, none⟩ = some (.int .i64 t2.at_) := (Lib.cell_of_heap hBy _).trans rfl
            have y4 : Y.cell? ⟨By, 4, none⟩ = some (.int .i64 t2.end_) := (Lib.cell_of_heap hBy _).trans rfl
            have x0 : Y.cell? ⟨g, pre2.length * 5, none⟩ = some (.int .i64 t2.kind) := hcl 0 _ rfl
            have x1 : Y.cell? ⟨g, pre2.length * 5 + 1, none⟩ = some (.string ⟨t2.text.toArray⟩) := hcl 1 _ rfl
            have x2 : Y.cell? ⟨g, pre2.length * 5 + 2, none⟩ = some (.int .i64 t2.num) := hcl 2 _ rfl
            have x3 : Y.cell? ⟨g, pre2.length * 5 + 3, none⟩ = some (.int .i64 t2.at_) := hcl 3 _ rfl
            have x4 : Y.cell? ⟨g, pre2.length * 5 + 4, none⟩ = some (.int .i64 t2.end_) := hcl 4 _ rfl
            have NT : ∀ W, (binOp .neq 44 (.agg #[.int .i64 t2.kind, .string ⟨t2.text.toArray⟩, .int .i64 t2.num, .int .i64 t2.at_, .int .i64 t2.end_]) (.agg #[.int .i64 t2.kind, .string ⟨t2.text.toArray⟩, .int .i64 t2.num, .int .i64 t2.at_, .int .i64 t2.end_])).run Tryd.prog W = .ok (.bool false) W := fun W => by rw [run_neq_tok t2 t2 W, decide_eq_true rfl]; rfl
            have hKI : (pre2.length : Int) < (ts.length : Int) := by omega
            have hKI2 : ¬ (ts.length : Int) ≤ (pre2.length : Int) := by omega
            have hKN : decide (ts.length ≤ pre2.length) = false := decide_eq_false (by omega)
            rw [hA] at cW
            simp only [frameIt, List.setIfInBounds_toArray, List.set_cons_succ, List.set_cons_zero, itC, itE, tokCells]
            clear hpp hI3 hR2 hcl hBy hlr2 hl2 HTY ht hA
            by_cases hgt : pre.length < pre2.length + 1
            · have hG1 : (pre.length : Int) < (pre2.length : Int) + 1 := by omega
              have hG2 : decide (pre.length < pre2.length + 1) = true := decide_eq_true hgt
              gi_wp2
              refine region_quietR (by kernel_rfl) (by kernel_rfl) (by kernel_rfl) ?_
              repeat (gi_big_quiet_step (fail))
              refine wpQuietIn_nil ?_
              intro _ hw'
              obtain ⟨nq, hw''⟩ := hw'
              subst hw''
              gi_wp2
              exact I3.stop HI3.out _ nq
            · have hG1 : ¬ (pre.length : Int) < (pre2.length : Int) + 1 := by omega
              have hG2 : decide (pre.length < pre2.length + 1) = false := decide_eq_false hgt
              by_cases h40 : 40 < pre2.length + 1
              · have hH1 : (40 : Int) < (pre2.length : Int) + 1 := by omega
                gi_wp2
                refine region_quietR (by kernel_rfl) (by kernel_rfl) (by kernel_rfl) ?_
                repeat (gi_big_quiet_step (fail))
                refine wpQuietIn_nil ?_
                intro _ hw'
                obtain ⟨nq, hw''⟩ := hw'
                subst hw''
                gi_wp2
                exact I3.stop HI3.out _ nq
              · have hH1 : ¬ (40 : Int) < (pre2.length : Int) + 1 := by omega
                gi_wp2
                refine region_quietR (by kernel_rfl) (by kernel_rfl) (by kernel_rfl) ?_
                repeat (gi_big_quiet_step (fail))
                refine wpQuietIn_nil ?_
                intro _ hw'
                obtain ⟨nq, hw''⟩ := hw'
                subst hw''
                gi_wp2
                exact I3.step HI3.out _ nq HPP.out
          | flt c2 a2 b2 =>
            obtain ⟨hk, hf, hpp⟩ := hI3.pre.flt HP.out hR2
            have HPP := Lib.hid hpp
            have hkn : ((pre2.length : Int) != (ts.length : Int)) = false := by simp; omega
            simp only [frameIt, List.setIfInBounds_toArray, List.set_cons_succ, List.set_cons_zero, itC, itE, tokCells]
            clear hpp hI3 hR2 hBy hlr2 hl2 hk hf
            by_cases hgt : pre.length < pre2.length + 1
            · have hG1 : (pre.length : Int) < (pre2.length : Int) + 1 := by omega
              have hG2 : decide (pre.length < pre2.length + 1) = true := decide_eq_true hgt
              gi_wp2
              refine region_quietR (by kernel_rfl) (by kernel_rfl) (by kernel_rfl) ?_
              repeat (gi_big_quiet_step (fail))
              refine wpQuietIn_nil ?_
              intro _ hw'
              obtain ⟨nq, hw''⟩ := hw'
              subst hw''
              gi_wp2
              exact I3.stop HI3.out _ nq
            · have hG1 : ¬ (pre.length : Int) < (pre2.length : Int) + 1 := by omega
              have hG2 : decide (pre.length < pre2.length + 1) = false := decide_eq_false hgt
              by_cases h40 : 40 < pre2.length + 1
              · have hH1 : (40 : Int) < (pre2.length : Int) + 1 := by omega
                gi_wp2
                refine region_quietR (by kernel_rfl) (by kernel_rfl) (by kernel_rfl) ?_
                repeat (gi_big_quiet_step (fail))
                refine wpQuietIn_nil ?_
                intro _ hw'
                obtain ⟨nq, hw''⟩ := hw'
                subst hw''
                gi_wp2
                exact I3.stop HI3.out _ nq
              · have hH1 : ¬ (40 : Int) < (pre2.length : Int) + 1 := by omega
                gi_wp2
                refine region_quietR (by kernel_rfl) (by kernel_rfl) (by kernel_rfl) ?_
                repeat (gi_big_quiet_step (fail))
                refine wpQuietIn_nil ?_
                intro _ hw'
                obtain ⟨nq, hw''⟩ := hw'
                subst hw''
                gi_wp2
                exact I3.step HI3.out _ nq HPP.out
        case done2 =>
          intro xs Y hS2 hI3
          have ck2 : Y.cell? ⟨W.heap.size, 0, none⟩ = some (.int .i64 (pre.length : Nat)) := (hI3.bel.cell (p := ⟨W.heap.size, 0, none⟩) HCK1.out.lt).trans HCK1.out.cell
          have zk2 := World.block_lt_of_cell? _ _ ck2
          have fk2 : Y.frozen? ⟨W.heap.size, 0, none⟩ = false := Boxed.frozen ((hI3.bel.block _ HCK1.out.lt).trans HCK1.out)
          have RIY := Lib.hid (RIX1.out.more hI3.bel (Nat.le_refl _))
          have cW := RIY.out.ws.cW.cell
          have zW := RIY.out.ws.cW.lt
          have hST := Lib.hid (I2.step HI.out (HB1.out.trans (hI3.bel.mono HB1.out.size)) HPO.out (by omega))
          clear hI3 hS2
          gi_wp2
          exact hST.out
        case stop2 =>
          rintro c2 pre2 Y ⟨rfl, hbY⟩
          have ck2 : Y.cell? ⟨W.heap.size, 0, none⟩ = some (.int .i64 (pre.length : Nat)) := (hbY.cell (p := ⟨W.heap.size, 0, none⟩) HCK1.out.lt).trans HCK1.out.cell
          have zk2 := World.block_lt_of_cell? _ _ ck2
          have fk2 : Y.frozen? ⟨W.heap.size, 0, none⟩ = false := Boxed.frozen ((hbY.block _ HCK1.out.lt).trans HCK1.out)
          have RIY := Lib.hid (RIX1.out.more hbY (Nat.le_refl _))
          have cW := RIY.out.ws.cW.cell
          have zW := RIY.out.ws.cW.lt
          have hST := Lib.hid (I2.step HI.out (HB1.out.trans (hbY.mono HB1.out.size)) HPO.out (by omega))
          clear hbY
          gi_wp2
          exact hST.out
      | flt c a b =>
        obtain ⟨hk, hf, hpo⟩ := hI.pre.flt HP.out hR
        have HPO := Lib.hid hpo
        have hkn : ((pre.length : Int) != (ts.length : Int)) = false := by simp; omega
        have hKC2 : ¬ (ts.length : Int) + 1 < (pre.length : Int) + 1 := by omega
        simp only [frameIt, List.setIfInBounds_toArray, List.set_cons_succ, List.set_cons_zero, itC, itE, tokCells]
        clear hpo hI hR hBx hlr hk hf
        gi_wp2
        refine region_quietR (by kernel_rfl) (by kernel_rfl) (by kernel_rfl) ?_
        repeat (gi_big_quiet_step (fail))
        refine wpQuietIn_nil ?_
        intro _ hw'
        obtain ⟨nq, hw''⟩ := hw'
        subst hw''
        obtain ⟨X1, hX1⟩ : ∃ X1, X.drewN nq = X1 := ⟨_, rfl⟩
        rw [hX1]
        have hb1 : Below X.heap.size X X1 := by rw [← hX1]; exact below_drewN (Below.refl _ _) nq
        clear hX1
        have HB1 := Lib.hid hb1
        have RIX1 := Lib.hid (RIX.out.more hb1 (Nat.le_refl _))
        have HCK1 : Hid (Boxed X1 W.heap.size 3 (.int .i64 (pre.length : Nat))) := Lib.hid ((hb1.block _ HCK.out.lt).trans HCK.out)
        have cw5 : X1.cell? ⟨D4, 0, none⟩ = some (.func (.func 32) #[] #[.pointer (some ⟨D3, 0, none⟩)]) := (hb1.cell (p := ⟨D4, 0, none⟩) zw4).trans cw4
        have zw5 := World.block_lt_of_cell? _ _ cw5
        have hD5 := RIX1.out.ws.sz
        obtain ⟨r0, hlr⟩ := HLR.out
        have HLR1 : Hid (X1.heap[l']? = some (.loop r0)) := Lib.hid ((hb1.block _ (Array.getElem?_eq_some_iff.1 hlr).1).trans hlr)
        have zkX := HCK1.out.lt
        have hX8 : 8 < X1.heap.size := by have := hb1.size; omega
        clear hb1 hlr
        gi_wp2
        obtain ⟨Wi, hWi⟩ : ∃ Wi, X1.alloc (.cells #[.int .i64 0] 3) = Wi := ⟨_, rfl⟩
        have hbX : Below X1.heap.size X1 Wi := by rw [← hWi]; exact (Below.refl _ X1).alloc (Nat.le_refl _) _
        have hzi : Wi.heap.size = X1.heap.size + 1 := by rw [← hWi, World.size_alloc]
        have bi0 : Boxed Wi X1.heap.size 3 (.int .i64 (0 : Nat)) := by rw [← hWi]; exact Boxed.new X1 3 (.int .i64 0)
        rw [hWi]
        clear hWi
        have hlw : Wi.heap[l']? = some (.loop r0) := (hbX.block _ (Array.getElem?_eq_some_iff.1 HLR1.out).1).trans HLR1.out
        have RIW := Lib.hid (RIX1.out.more hbX (Nat.le_refl _))
        have hI30 : I3 X1 ts f [] Wi := ⟨hbX, bi0, Pre.begin _ _⟩
        have hSeq2 := each1_seq 17 (by decide) s (by omega) D3 X1.heap.size [X1.heap.size] none Wi hX8 (by omega) (fun b hb => by simp at hb; omega) (fun B e => by cases e) (by rw [← hD3]; exact RIW.out.ws.cS) (by simp; omega) (fun g e => by cases e) (HL.out.below RIW.out.ws.bel)
        clear cw5 zw5
        refine range_itN 18 19 128 129 s.data.toList Wi.heap.size D3 X1.heap.size [X1.heap.size] rfl hlw (by decide) rfl trivial (by omega) (Below.refl _ _) (SeqR.inRound l' hSeq2) (I3 X1 ts f) (fun c _ Y => X3 X1 c Y) (I3.own (by omega)) (fun c => X3.own c (by omega)) hI30 (fun pre Y h => h.bel.size) ?assign2 ?body2 ?done2 ?stop2
        case assign2 =>
          rintro l' x X K2 hK2
          cases x with
          | tok t =>
            dsimp only [itV, itC, itE, tokV, tokCells] at hK2 ⊢
            simp only [frameIt, List.setIfInBounds_toArray, List.set_cons_succ, List.set_cons_zero] at hK2
            have HK2 := Lib.hid hK2
            clear hK2
            gi_wp2
            exact HK2.out
          | flt c a b =>
            dsimp only [itV, itC, itE] at hK2 ⊢
            simp only [frameIt, List.setIfInBounds_toArray, List.set_cons_succ, List.set_cons_zero] at hK2
            have HK2 := Lib.hid hK2
            clear hK2
            gi_wp2
            exact HK2.out
        case body2 =>
          intro l2 pre2 x2 By Y hl2 hlr2 hI3 hBy hR2
          have HI3 := Lib.hid hI3
          have RIY := Lib.hid (RIX1.out.more hI3.bel (Nat.le_refl _))
          have hYX := hI3.bel.size
          have ci := hI3.ci.cell
          have zi := hI3.ci.lt
          have fi := hI3.ci.frozen
          have ck2 : Y.cell? ⟨W.heap.size, 0, none⟩ = some (.int .i64 (pre.length : Nat)) := (hI3.bel.cell (p := ⟨W.heap.size, 0, none⟩) HCK1.out.lt).trans HCK1.out.cell
          have zk2 := World.block_lt_of_cell? _ _ ck2
          have cW := RIY.out.ws.cW.cell
          have zW := RIY.out.ws.cW.lt
          have zBy := (Array.getElem?_eq_some_iff.1 hBy).1
          have hPL : pre2.length ≤ ts.length + 1 := by
            rcases hI3.pre with ⟨us, rfl, _, h⟩ | ⟨c, a, b, rfl, _⟩
            · rw [List.length_map]; omega
            · rw [List.length_append, List.length_map]; simp
          cases x2 with
          | tok t2 =>
            obtain ⟨hk, ht, hpp⟩ := hI3.pre.tok HP.out hR2
            have HPP := Lib.hid hpp
            have HTY := Lib.hid (tokAt_of_own RIY.out.ws.tw)
            obtain ⟨g, hA, hgz, hcl⟩ : ∃ g, Aw = some ⟨g, 0, none⟩ ∧ g < Y.heap.size ∧ ∀ j u, (tokCells t2).toList[j]? = some u → Y.cell? ⟨g, pre2.length * 5 + j, none⟩ = some u := by
              rcases HTY.out with ⟨_, h2⟩ | ⟨g, cap, h1, h2, h3⟩
              · rw [h2] at hk; exact absurd hk (Nat.not_lt_zero _)
              · injection h1 with e1 _ _
                exact ⟨g, e1, h2, fun j u hu => h3 _ hk j u (by rw [ht]; exact hu)⟩
            have y0 : Y.cell? ⟨By, 0, none⟩ = some (.int .i64 t2.kind) := (Lib.cell_of_heap hBy _).trans rfl
            have y1 : Y.cell? ⟨By, 1, none⟩ = some (.string ⟨t2.text.toArray⟩) := (Lib.cell_of_heap hBy _).trans rfl
            have y2 : Y.cell? ⟨By, 2, none⟩ = some (.int .i64 t2.num) := (Lib.cell_of_heap hBy _).trans rfl
            have y3 : Y.cell? ⟨By, 3, none⟩ = some (.int .i64 t2.at_) := (Lib.cell_of_heap hBy _).trans rfl
            have y4 : Y.cell? ⟨By, 4, none⟩ = some (.int .i64 t2.end_) := (Lib.cell_of_heap hBy _).trans rfl
            have x0 : Y.cell? ⟨g, pre2.length * 5, none⟩ = some (.int .i64 t2.kind) := hcl 0 _ rfl
            have x1 : Y.cell? ⟨g, pre2.length * 5 + 1, none⟩ = some (.string ⟨t2.text.toArray⟩) := hcl 1 _ rfl
            have x2 : Y.cell? ⟨g, pre2.length * 5 + 2, none⟩ = some (.int .i64 t2.num) := hcl 2 _ rfl
            have x3 : Y.cell? ⟨g, pre2.length * 5 + 3, none⟩ = some (.int .i64 t2.at_) := hcl 3 _ rfl
            have x4 : Y.cell? ⟨g, pre2.length * 5 + 4, none⟩ = some (.int .i64 t2.end_) := hcl 4 _ rfl
            have NT : ∀ W, (binOp .neq 44 (.agg #[.int .i64 t2.kind, .string ⟨t2.text.toArray⟩, .int .i64 t2.num, .int .i64 t2.at_, .int .i64 t2.end_]) (.agg #[.int .i64 t2.kind, .string ⟨t2.text.toArray⟩, .int .i64 t2.num, .int .i64 t2.at_, .int .i64 t2.end_])).run Tryd.prog W = .ok (.bool false) W := fun W => by rw [run_neq_tok t2 t2 W, decide_eq_true rfl]; rfl
            have hKI : (pre2.length : Int) < (ts.length : Int) := by omega
            have hKI2 : ¬ (ts.length : Int) ≤ (pre2.length : Int) := by omega
            have hKN : decide (ts.length ≤ pre2.length) = false := decide_eq_false (by omega)
            rw [hA] at cW
            simp only [frameIt, List.setIfInBounds_toArray, List.set_cons_succ, List.set_cons_zero, itC, itE, tokCells]
            clear hpp hI3 hR2 hcl hBy hlr2 hl2 HTY ht hA
            by_cases hgt : pre.length < pre2.length + 1
            · have hG1 : (pre.length : Int) < (pre2.length : Int) + 1 := by omega
              have hG2 : decide (pre.length < pre2.length + 1) = true := decide_eq_true hgt
              gi_wp2
              refine region_quietR (by kernel_rfl) (by kernel_rfl) (by kernel_rfl) ?_
              repeat (gi_big_quiet_step (fail))
              refine wpQuietIn_nil ?_
              intro _ hw'
              obtain ⟨nq, hw''⟩ := hw'
              subst hw''
              gi_wp2
              exact I3.stop HI3.out _ nq
            · have hG1 : ¬ (pre.length : Int) < (pre2.length : Int) + 1 := by omega
              have hG2 : decide (pre.length < pre2.length + 1) = false := decide_eq_false hgt
              by_cases h40 : 40 < pre2.length + 1
              · have hH1 : (40 : Int) < (pre2.length : Int) + 1 := by omega
                gi_wp2
                refine region_quietR (by kernel_rfl) (by kernel_rfl) (by kernel_rfl) ?_
                repeat (gi_big_quiet_step (fail))
                refine wpQuietIn_nil ?_
                intro _ hw'
                obtain ⟨nq, hw''⟩ := hw'
                subst hw''
                gi_wp2
                exact I3.stop HI3.out _ nq
              · have hH1 : ¬ (40 : Int) < (pre2.length : Int) + 1 := by omega
                gi_wp2
                refine region_quietR (by kernel_rfl) (by kernel_rfl) (by kernel_rfl) ?_
                repeat (gi_big_quiet_step (fail))
                refine wpQuietIn_nil ?_
                intro _ hw'
                obtain ⟨nq, hw''⟩ := hw'
                subst hw''
                gi_wp2
                exact I3.step HI3.out _ nq HPP.out
          | flt c2 a2 b2 =>
            obtain ⟨hk, hf, hpp⟩ := hI3.pre.flt HP.out hR2
            have HPP := Lib.hid hpp
            have hkn : ((pre2.length : Int) != (ts.length : Int)) = false := by simp; omega
            simp only [frameIt, List.setIfInBounds_toArray, List.set_cons_succ, List.set_cons_zero, itC, itE, tokCells]
            clear hpp hI3 hR2 hBy hlr2 hl2 hk hf
            by_cases hgt : pre.length < pre2.length + 1
            · have hG1 : (pre.length : Int) < (pre2.length : Int) + 1 := by omega
              have hG2 : decide (pre.length < pre2.length + 1) = true := decide_eq_true hgt
              gi_wp2
              refine region_quietR (by kernel_rfl) (by kernel_rfl) (by kernel_rfl) ?_
              repeat (gi_big_quiet_step (fail))
              refine wpQuietIn_nil ?_
              intro _ hw'
              obtain ⟨nq, hw''⟩ := hw'
              subst hw''
              gi_wp2
              exact I3.stop HI3.out _ nq
            · have hG1 : ¬ (pre.length : Int) < (pre2.length : Int) + 1 := by omega
              have hG2 : decide (pre.length < pre2.length + 1) = false := decide_eq_false hgt
              by_cases h40 : 40 < pre2.length + 1
              · have hH1 : (40 : Int) < (pre2.length : Int) + 1 := by omega
                gi_wp2
                refine region_quietR (by kernel_rfl) (by kernel_rfl) (by kernel_rfl) ?_
                repeat (gi_big_quiet_step (fail))
                refine wpQuietIn_nil ?_
                intro _ hw'
                obtain ⟨nq, hw''⟩ := hw'
                subst hw''
                gi_wp2
                exact I3.stop HI3.out _ nq
              · have hH1 : ¬ (40 : Int) < (pre2.length : Int) + 1 := by omega
                gi_wp2
                refine region_quietR (by kernel_rfl) (by kernel_rfl) (by kernel_rfl) ?_
                repeat (gi_big_quiet_step (fail))
                refine wpQuietIn_nil ?_
                intro _ hw'
                obtain ⟨nq, hw''⟩ := hw'
                subst hw''
                gi_wp2
                exact I3.step HI3.out _ nq HPP.out
        case done2 =>
          intro xs Y hS2 hI3
          have ck2 : Y.cell? ⟨W.heap.size, 0, none⟩ = some (.int .i64 (pre.length : Nat)) := (hI3.bel.cell (p := ⟨W.heap.size, 0, none⟩) HCK1.out.lt).trans HCK1.out.cell
          have zk2 := World.block_lt_of_cell? _ _ ck2
          have fk2 : Y.frozen? ⟨W.heap.size, 0, none⟩ = false := Boxed.frozen ((hI3.bel.block _ HCK1.out.lt).trans HCK1.out)
          have RIY := Lib.hid (RIX1.out.more hI3.bel (Nat.le_refl _))
          have cW := RIY.out.ws.cW.cell
          have zW := RIY.out.ws.cW.lt
          have hST := Lib.hid (I2.step HI.out (HB1.out.trans (hI3.bel.mono HB1.out.size)) HPO.out (by omega))
          clear hI3 hS2
          gi_wp2
          exact hST.out
        case stop2 =>
          rintro c2 pre2 Y ⟨rfl, hbY⟩
          have ck2 : Y.cell? ⟨W.heap.size, 0, none⟩ = some (.int .i64 (pre.length : Nat)) := (hbY.cell (p := ⟨W.heap.size, 0, none⟩) HCK1.out.lt).trans HCK1.out.cell
          have zk2 := World.block_lt_of_cell? _ _ ck2
          have fk2 : Y.frozen? ⟨W.heap.size, 0, none⟩ = false := Boxed.frozen ((hbY.block _ HCK1.out.lt).trans HCK1.out)
          have RIY := Lib.hid (RIX1.out.more hbY (Nat.le_refl _))
          have cW := RIY.out.ws.cW.cell
          have zW := RIY.out.ws.cW.lt
          have hST := Lib.hid (I2.step HI.out (HB1.out.trans (hbY.mono HB1.out.size)) HPO.out (by omega))
          clear hbY
          gi_wp2
          exact hST.out
    case done =>
      intro Dm xs X hD hS hI hK3
      have HI := Lib.hid hI
      have cK := hI.ck.cell
      have zK := hI.ck.lt
      have cW := hI.ri.ws.cW.cell
      have zW := hI.ri.ws.cW.lt
      have ce : X.cell? ⟨D1, 0, none⟩ = some (.int .i64 (codeOf f)) := by rw [← hD1]; exact hI.ri.ws.ce.cell
      have ze := World.block_lt_of_cell? _ _ ce
      have cR2 := hI.ri.ws.cR.cell
      have zR2 := hI.ri.ws.cR.lt
      have fR2 := hI.ri.ws.cR.frozen
      have HM := Lib.hid hK3
      have hGood : Hid (GoodM w (Dm :: ds)) := Lib.hid (HG.out.cons (fun d h => (hI.ri.mks d h).1) hD (by have := hI.ri.ws.bel.size; omega))
      have HD : Hid (∀ d, d ∈ Dm :: ds → X.heap[d]? = some (.deferred (some []))) := Lib.hid (fun d hd => by
        rcases List.mem_cons.1 hd with rfl | hd
        · exact hK3
        · exact (hI.ri.mks d hd).2)
      have HCF2 := HCF
      have hfin := Pre.fin HP.out hS
      clear hI hS hK3
      have FIN : Hid (∀ tmps : Array Value, tmps.getD 4 undef = .pointer (some ⟨w.heap.size + 1, 0, none⟩) → LeavesInM Fence.wide 20 Tryd.prog Tryd.f5 tmps (fun e w' => e = .returned (.bool true) ∧ Below w.heap.size w w') ((Dm :: ds).map mkD) .returning (X.setCell ⟨w.heap.size + 1, 0, none⟩ (.bool true))) := Lib.hid (fun tmps ht => by
        refine leave_marks (b := w.heap.size + 1) (t := 4) (fun W hb => results_c rfl tmps W (.bool true) ⟨w.heap.size + 1, 0, none⟩ ht (by simp [go_sem, hb.cell])) (Dm :: ds) _ hGood.out (fun d hd => ?_) (HI.out.ri.ws.cR.set _) (HI.out.ri.ws.bel.setCell (p := ⟨w.heap.size + 1, 0, none⟩) (by simp) _)
        refine (Below.heap_setCell _ _ _ d (fun e => ?_)).trans (HD.out d hd)
        have h1 := HD.out d hd
        rw [e, show X.heap[w.heap.size + 1]? = _ from HI.out.ri.ws.cR] at h1
        cases h1)
      rcases hfin with ⟨hf, hl⟩ | ⟨c, a, hf, hl⟩
      · have he : (codeOf f == 0) = true := by rw [hf]; rfl
        have he2 : (codeOf f != 0) = false := by rw [hf]; rfl
        have hkl : ((xs.length : Int) == (ts.length : Int)) = true := by simp; omega
        clear hf hl
        gi_wp2
        exact FIN.out _ rfl
      · have hc := HCF.out c a hf
        have he : (codeOf f == 0) = false := by rw [hf]; simpa [codeOf] using hc
        have he2 : (codeOf f != 0) = true := by rw [hf]; simpa [codeOf] using hc
        have hkl : ((xs.length : Int) == (ts.length : Int)) = false := by simp; omega
        have hkl1 : ((xs.length : Int) == (ts.length : Int) + 1) = true := by simp; omega
        clear hf hl hc
        gi_wp2
        exact FIN.out _ rfl
    case stop =>
      intro Dm c pre X hD h
      exact h.elim

end Go.Proofs.YthcdmnndhjbbfaaDoor.X
