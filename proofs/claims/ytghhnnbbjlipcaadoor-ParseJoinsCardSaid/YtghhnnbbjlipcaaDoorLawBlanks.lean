/-
  The walk of ParseBlanks.
-/
import Derived.Test.YtghhnnbbjlipcaaDoorPlJ
import Derived.Test.YtghhnnbbjlipcaaDoorParSm
import Derived.OwnWalk
set_option linter.unusedVariables false
set_option linter.unusedSimpArgs false
namespace Go.Proofs.YtghhnnbbjlipcaaDoor.X
open Go.RowKit
theorem cell_block {w : World} {a : Addr} {v : Value} (h : w.cell? a = some v) : a.block < w.heap.size := by
  unfold World.cell? at h
  cases hb : w.heap[a.block]? with
  | none => rw [hb] at h; cases h
  | some o => exact (Array.getElem?_eq_some_iff.1 hb).1
theorem str_step (B g : Bs) (s : ByteArray) (x y : Nat) : (⟨B.toArray⟩ ++ ⟨g.toArray⟩ ++ s.extract x y : ByteArray) = ⟨(B ++ (g ++ (s.data.toList.drop x).take (y - x))).toArray⟩ := by
  apply ByteArray.ext
  apply Array.ext'
  simp [ByteArray.data_append, ByteArray.data_extract, Array.toList_extract, List.extract_eq_take_drop]
theorem tok_open {ts : List Tk} {w2 : World} {base : Nat} {v : Value} (hv : TokSl w2 base v ts) (h0 : 0 < ts.length) : ∃ g cap, g < w2.heap.size ∧ (∀ k (h : k < ts.length) j u, (tokCells ts[k]).toList[j]? = some u → w2.cell? ⟨g, k * 5 + j, none⟩ = some u) ∧ v = .slice (some ⟨g, 0, none⟩) ts.length cap := by
  rcases tokAt_of_own hv with ⟨_, h⟩ | ⟨g, cap, h1, h2, h3⟩
  · rw [h] at h0; simp at h0
  · exact ⟨g, cap, h2, h3, h1⟩
theorem runF_kids : ∀ (ps : List PD) (F : List Nat) (i : Nat) (R : List Nat), runF F i ps = some R → ∀ p ∈ ps, p.kids.length ≤ F.length + ps.length
  | [], F, i, R, h, p, hp => by cases hp
  | q :: ps, F, i, R, h, p, hp => by
    simp only [runF, stepF] at h
    split at h
    · cases h
    · rename_i f hf
      split at hf
      · rename_i hfit
        injection hf with hf
        rcases List.mem_cons.1 hp with rfl | hp
        · have := hfit.1; simp only [List.length_cons]; omega
        · have := runF_kids ps f (i + 1) R h p hp
          rw [← hf] at this
          simp only [List.length_append, List.length_take, List.length_cons, List.length_nil] at this ⊢
          have := hfit.1
          omega
      · cases hf
theorem either_len {l : Bs} {ps : List PD} {offs : List Nat} (h : parseL l = .ok (ps, offs)) : ps.length ≤ 1000 ∧ (∀ p ∈ ps, p.kids.length ≤ 1000000) ∧ offs.length = ps.length := by
  rcases either_cases l with ⟨ps', offs', h1, h2, h3, ⟨r0, h4⟩, h5⟩ | ⟨f, h1, h2, h3⟩
  · rw [h] at h1
    injection h1 with h1
    injection h1 with e1 e2
    subst e1 e2
    refine ⟨h3, fun p hp => ?_, h2.symm⟩
    have := runF_kids ps [] 0 [r0] h4 p hp
    simp at this
    omega
  · rw [h] at h1; cases h1
theorem read_err2 (w : World) {b : Nat} {c a : Int} (h : w.heap[b]? = some (faultObj c a)) (hc : c ≠ 0) : Calls Tryd.prog 9 #[.iface 62 (.pointer (some ⟨b, 0, none⟩))] w fun e w' => e = .returned (.agg (H.fcells c a ⟨#[]⟩)) ∧ Below w.heap.size w w' :=
  H.read_any _ (some (c, a)) w (err_is h (by simpa using hc))
theorem fst1 (w : World) (A : Obj) (a b a' b' : Int) (s s' : ByteArray) :
    (storeCells ⟨w.heap.size + 1, 0, none⟩ (H.flist a b s)).run Tryd.prog ((w.alloc A).alloc (.cells (H.fcells a' b' s') 35)) = .ok () ((w.alloc A).alloc (.cells (H.fcells a b s) 35)) := by
  rw [H.s_cells _ _ _ a b a' b' s s' (heap_alloc2_new _ _ _)]
  have h := H.setRow_last (w.alloc A) (H.fcells a' b' s') (H.fcells a b s) 35
  rw [World.size_alloc] at h
  rw [h]
theorem fst0 (w : World) (B : Obj) (a b a' b' : Int) (s s' : ByteArray) :
    (storeCells ⟨w.heap.size, 0, none⟩ (H.flist a b s)).run Tryd.prog ((w.alloc (.cells (H.fcells a' b' s') 35)).alloc B) = .ok () ((w.alloc (.cells (H.fcells a b s) 35)).alloc B) := by
  rw [H.s_cells _ _ _ a b a' b' s s' (by rw [Below.heap_alloc _ _ _ (by simp)]; exact heap_alloc_new _ _), H.setRow_last2]
theorem st1b (w : World) (a : Option Addr) (n c : Nat) (x : Value) (t : TypeId) : (storeCells ⟨w.heap.size, 0, none⟩ [.slice a n c]).run Tryd.prog (w.alloc (.cells #[x] t)) = .ok () (w.alloc (.cells #[.slice a n c] t)) := by
  simp [go_sem]
theorem st_int (W : World) (g x : Nat) (y : Int) (old : Value) (hc : W.cell? ⟨g, x, none⟩ = some old) (hf : W.frozen? ⟨g, x, none⟩ = false) : (storeCells ⟨g, x, none⟩ [.int .i64 y]).run Tryd.prog W = .ok () (W.setCell ⟨g, x, none⟩ (.int .i64 y)) := by
  simp [go_sem, hc, hf]
theorem ld1 (W : World) (g : Nat) (v : Value) (hc : W.cell? ⟨g, 0, none⟩ = some v) : (loadCells ⟨g, 0, none⟩ 1).run Tryd.prog W = .ok #[v] W := by
  simp [go_sem, hc]
theorem Mvd.get {l : Bs} {ts : List Tk} {G : Nat → Bs} {k : Nat} {cur : Array Value} (h : Mvd l ts G k cur) {j : Nat} (hj : j < k) (x : Nat) (hx : x = placeT ts j) : cur[x]? = some (.int .i64 (movedG l ts G j : Nat)) := by subst hx; exact h.at_ j hj
set_option maxHeartbeats 8000000 in
set_option maxRecDepth 100000 in
theorem blanks_scanErr (s : ByteArray) (v : Value) (w : World) (hs : s.size ≤ 140737488355328) (hL : LW w) (ts0 : List Tk) (f : Int × Nat) (h : scanL s.data.toList = (ts0, some f)) :
    Calls Tryd.prog 4 #[.string s, v] w fun e w' => e = .returned (.bool true) ∧ Below w.heap.size w w' := by
  have HL := Lib.hid hL
  have PS := Lib.hid (fun W h => scan_any s W (by omega) h)
  rw [h] at PS
  clear hL h
  go_enter Tryd.func4, Tryd.ntmps4
  go_wp2_with (first
    | (go_at_call 12; refine (PS.out _ (HL.out.below HB2.out)).mono ?_; rintro e w3 ⟨hB3, b, rfl, hb1, hb2⟩; have HB3 := Lib.hid (HB2.out.trans (hB3.mono HB2.out.size)); clear hB3 hb1 hb2)
    | (go_at_call 7; refine (wakes_any _ HL.out).mono ?_; rintro e w2 ⟨rfl, hB2⟩; have HB2 := Lib.hid hB2; clear hB2))
  go_ret
  exact ⟨rfl, HB3.out⟩
section
attribute [-go_sem] storeCells loadCells loadCellsFrom
attribute [local go_sem] fst0 fst1 st1b st_int
set_option maxHeartbeats 16000000 in
set_option maxRecDepth 100000 in
theorem blanks_ok (s : ByteArray) (a : Option Addr) (n cap : Nat) (gs : List Int) (w : World) (hs : s.size ≤ 140737488355328) (hn : n = gs.length) (hgl : n ≤ 9223372036854775807) (hwf : ∀ g ∈ gs, (Lit.int .i64 g).wf = true) (hv : 0 < n → ∃ ad, a = some ad ∧ ∀ i (h : i < gs.length), w.cell? (ad.add i) = some (.int .i64 gs[i])) (hL : LW w) (ts : List Tk) (h : scanL s.data.toList = (ts, none)) :
    Calls Tryd.prog 4 #[.string s, .slice a n cap] w fun e w' => e = .returned (.bool true) ∧ Below w.heap.size w w' := by
  have HL := Lib.hid hL
  have PS := Lib.hid (fun W h => scan_any s W (by omega) h)
  have PC := Lib.hid (fun W h => parse_c s W (by omega) h)
  rw [h] at PS
  obtain ⟨hl4, hch⟩ := prefix_chain h
  have hT := (scan_TOK h).1
  have h0 := (scan_TOK h).2
  have hsz : s.size ≤ 4096 := by have h4 : s.data.toList.length = s.size := (by simp); omega
  have HS := Lib.hid h
  have HC := Lib.hid hch
  have HN := Lib.hid hn
  have HV := Lib.hid hv
  have HWF := Lib.hid hwf
  clear hL h hch hl4 hn hv hwf
  obtain ⟨i0, hi, hz0, hz1, hz2⟩ := info_parts infoInt
  have HI := Lib.hid (And.intro hi (And.intro hz0 (And.intro hz1 hz2)))
  clear hi hz0 hz1 hz2
  go_enter Tryd.func4, Tryd.ntmps4
  go_wp2_with (first
    | (go_loud (refine wpList_make_full _ rfl (.tmp 31) (.tmp 31) 26 rfl (w.heap.size) 3 i0 (.int .i64 0) 1 Tryd.underlying26 HI.out.1 HI.out.2.1 HI.out.2.2.1 .i64 .i64 ((s.size : Int) + 1) ((s.size : Int) + 1) (s.size + 1) (by simp [Act.eval]) (by simp [Act.eval]) (by omega) (by omega) (by rw [HI.out.2.2.2]; omega) (by simp only [maxLen]; omega) (by have := HB3.out.size; omega) ?_; intro w4 ho4 hg4; have O4 := Lib.hid ho4; have G4 := Lib.hid hg4; clear ho4 hg4))
    | (go_at_call 12; refine (PS.out _ (HL.out.below HB2.out)).mono ?_; rintro e w3 ⟨hB3, v5, hv5, rfl⟩; obtain ⟨gt, ct, hgt, hcells, rfl⟩ := tok_open (ts := ts) hv5 (by omega); have HCe := Lib.hid hcells; have HB3 := Lib.hid (HB2.out.trans (hB3.mono HB2.out.size)); clear hB3 hv5 hcells)
    | (go_at_call 7; refine (wakes_any _ HL.out).mono ?_; rintro e w2 ⟨rfl, hB2⟩; have HB2 := Lib.hid hB2; clear hB2))
  obtain ⟨cur0, hc0, hcs⟩ : ∃ cur0, w4.heap[w3.heap.size]? = some (.cells cur0 3 (0, 0)) ∧ cur0.size = s.size + 1 := by
    rcases O4.out.2 with ⟨h1, _⟩ | ⟨g', c', cur, h1, _, h2, _, _, h4, _⟩
    · cases h1
    · injection h1 with e1 _ e3
      injection e1 with e1
      injection e1 with e1 _ _
      subst e1 e3
      exact ⟨cur, h2, by rw [h4]; omega⟩
  have HM0 : Hid (Mvd s.data.toList ts (gapsOf gs) 0 cur0) := Lib.hid ⟨by rw [hcs]; simp, fun j hj => absurd hj (by omega)⟩
  have HB4 : Hid (Below w3.heap.size w3 w4) := Lib.hid ((Below.refl _ w3).grown G4.out (Nat.le_refl _) (fun k e => by cases e))
  have HC0 := Lib.hid hc0
  clear hc0 hcs O4 G4
  go_loopw [7, 9, 10] (fun o i _ wr => ∃ (k : Nat) (cur : Array Value), k ≤ ts.length ∧ i = .int .i64 k ∧ o = .string ⟨(blOf s.data.toList (gapsOf gs) 0 (ts.take k)).toArray⟩ ∧ Hid (wr.heap[w3.heap.size]? = some (.cells cur 3 (0, 0))) ∧ Hid (Mvd s.data.toList ts (gapsOf gs) k cur) ∧ Hid (Below w3.heap.size w3 wr)) (fun _ i _ _ => ts.length - (intOf i).toNat)
  case atStart => exact ⟨0, cur0, by omega, rfl, rfl, HC0, HM0, HB4⟩
  case round =>
    obtain ⟨k, cur, hk, rfl, rfl, HCu, HM, HW⟩ := hrel
    have hbl := bl_len HC.out gs k hk
    have hlt4 : ts.length ≤ 4097 := hT.len
    have hbs : (blOf s.data.toList (gapsOf gs) 0 (ts.take k)).length ≤ 100000000 := by
      have h4 : s.data.toList.length = s.size := (by simp)
      have h5 : k * (18 + s.data.toList.length) ≤ 4097 * (18 + 4096) := Nat.mul_le_mul (by omega) (by omega)
      omega
    clear hbl
    by_cases hlt : k < ts.length
    · have hI : (k : Int) < (ts.length : Int) := by omega
      have a3 : wr.cell? ⟨gt, k * 5 + 3, none⟩ = some (.int .i64 (ts[k].at_ : Nat)) := cell_keep HW.out hgt (HCe.out k hlt 3 _ rfl)
      have a4 : wr.cell? ⟨gt, k * 5 + 4, none⟩ = some (.int .i64 (ts[k].end_ : Nat)) := cell_keep HW.out hgt (HCe.out k hlt 4 _ rfl)
      obtain ⟨ho1, ho2⟩ := own_le HC.out hlt
      have ho2 : ts[k].end_ ≤ s.size := by have h4 : s.data.toList.length = s.size := (by simp); omega
      have hatle : ts[k].at_ < cur.size := by have h4 : s.data.toList.length = s.size := (by simp); rw [HM.out.size]; omega
      have hfz : ∀ j, wr.frozen? ⟨w3.heap.size, j, none⟩ = false := fun j => by simp [World.frozen?, HCu.out]
      obtain ⟨old, hcm⟩ : ∃ old, wr.cell? ⟨w3.heap.size, ts[k].at_, none⟩ = some old := ⟨_, (Lib.cell_of_heap HCu.out _).trans (Array.getElem?_eq_getElem hatle)⟩
      have hmz : w3.heap.size < wr.heap.size := (Array.getElem?_eq_some_iff.1 HCu.out).1
      have hbst := Lib.hid (bl_step (l := s.data.toList) (G := gapsOf gs) hlt)
      have hmst := Lib.hid (HM.out.step HC.out hlt)
      obtain ⟨x, hx⟩ : ∃ x, x = ts[k].at_ := ⟨_, rfl⟩
      obtain ⟨y, hy⟩ : ∃ y, y = ts[k].end_ := ⟨_, rfl⟩
      have HX := Lib.hid hx
      have HY := Lib.hid hy
      rw [← hx] at a3 ho1 hcm
      rw [← hy] at a4 ho1 ho2
      have hxs : x < cur.size := by rw [hx]; exact hatle
      clear hatle
      have hx1 : (x : Int) < (s.size : Int) + 1 := by omega
      have hd0 : decide ((x : Int) < 0) = false := decide_eq_false (by omega)
      have hd1 : decide ((y : Int) < (x : Int)) = false := decide_eq_false (by omega)
      have hd2 : decide ((s.size : Int) < (y : Int)) = false := decide_eq_false (by omega)
      have hne5 : ¬ gt = w3.heap.size := by omega
      have hne6 : ¬ w3.heap.size = gt := by omega
      have hd3 : ¬ (y : Int) < (x : Int) := by omega
      have hd4 : ¬ (s.size : Int) < (y : Int) := by omega
      clear hx hy
      have hgx : Hid ((ts.getD k endT).at_ = x) := Lib.hid (by rw [HX.out, List.getD_eq_getElem?_getD, List.getElem?_eq_getElem hlt]; rfl)
      have HBL : Hid (movedG s.data.toList ts (gapsOf gs) k = (blOf s.data.toList (gapsOf gs) 0 (ts.take k)).length + (gapsOf gs k).length) := Lib.hid rfl
      generalize blOf s.data.toList (gapsOf gs) 0 (ts.take k) = B at hbs hbst HBL
      by_cases hnp : 0 < n
      · obtain ⟨ad, rfl, hcell⟩ := HV.out hnp
        have hgpI : (0 : Int) < (n : Int) := by omega
        have htm : (k : Int).tmod (n : Int) = ((k % n : Nat) : Int) := by rw [Int.tmod_eq_emod_of_nonneg (by omega)]; rfl
        have hq : k % n < n := Nat.mod_lt _ hnp
        have hqI : ((k % n : Nat) : Int) < (n : Int) := by omega
        have hnz : ¬ (n : Int) = 0 := by omega
        have hq2 : k % n < gs.length := by rw [← HN.out]; exact hq
        have hcg := hcell _ hq2
        have hlo := HWF.out _ (List.getElem_mem hq2)
        have HG : Hid (gapsOf gs k = gapG (normG gs[k % n])) := Lib.hid (by unfold gapsOf; rw [if_neg (by omega), ← HN.out, List.getD_eq_getElem?_getD, List.getElem?_eq_getElem hq2]; rfl)
        have hcr : wr.cell? (ad.add (k % n)) = some (.int .i64 gs[k % n]) := by
          have hb : (ad.add (k % n)).block < w.heap.size := cell_block hcg
          exact ((HB3.out.trans (HW.out.mono HB3.out.size)).cell hb).trans hcg
        clear hcg hcell
        generalize gs[k % n]'hq2 = g at hcr hlo HG
        generalize k % n = q at htm hqI hcr hq
        have hr : -9223372036854775808 ≤ g ∧ g ≤ 9223372036854775807 := by simp [Lit.wf, IntKind.min, IntKind.max, IntKind.signed, IntKind.bits] at hlo; omega
        obtain ⟨hr1, hr2⟩ := hr
        clear hlo hq2
        obtain ⟨G0, hG0⟩ : ∃ G0, G0 = gapG (normG g) := ⟨_, rfl⟩
        have hGl : G0.length ≤ 18 := by rw [hG0]; exact gap_len _
        have HG0 := Lib.hid hG0
        rw [← hG0] at HG
        by_cases hneg : g < 0
        · have GC : Hid (∀ W, Calls Tryd.prog 13 #[.int .i64 (-(g + 1))] W fun e w' => e = .returned (.string ⟨G0.toArray⟩) ∧ w' = W) := Lib.hid (fun W => by
            have h1 : -(g + 1) = ((normG g : Nat) : Int) := by unfold normG; rw [if_pos hneg]; omega
            rw [h1, hG0]; exact gap_any _ (by unfold normG; rw [if_pos hneg]; omega) W)
          clear hG0
          go_wp2_with (go_at_call 13; refine (GC.out _).mono ?_; rintro e w9 ⟨rfl, rfl⟩)
          go_quiet (fail)
          go_wp2
          go_quiet (fail)
          go_wp2
          go_roundw
          case rel =>
            refine ⟨k + 1, cur.setIfInBounds x (.int .i64 (movedG s.data.toList ts (gapsOf gs) k : Nat)), by omega, by go_num, ?_, ?_, ?_, ?_⟩
            · rw [hbst.out, str_step, HX.out, HY.out, HG.out]
              rfl
            · have e : ((movedG s.data.toList ts (gapsOf gs) k : Nat) : Int) = (B.length : Int) + (G0.length : Int) := by rw [HBL.out, HG.out]; simp
              rw [e]
              exact Lib.hid (heap_setCell_same _ _ _ _ _ _ HCu.out)
            · exact Lib.hid (by have := hmst.out; rw [hgx.out] at this; exact this)
            · exact Lib.hid (below_drewN ((below_drewN HW.out _).grown (set_grown _ w3.heap.size x _) HW.out.size (fun k e => by cases e; exact Nat.le_refl _)) _)
          case measure => simp [intOf]; omega
        · have GC : Hid (∀ W, Calls Tryd.prog 13 #[.int .i64 g] W fun e w' => e = .returned (.string ⟨G0.toArray⟩) ∧ w' = W) := Lib.hid (fun W => by
            have h1 : g = ((normG g : Nat) : Int) := by unfold normG; rw [if_neg hneg]; omega
            rw [hG0]
            have := gap_any (normG g) (by unfold normG; rw [if_neg hneg]; omega) W
            rw [← h1] at this
            exact this)
          clear hG0
          go_wp2_with (go_at_call 13; refine (GC.out _).mono ?_; rintro e w9 ⟨rfl, rfl⟩)
          go_quiet (fail)
          go_wp2
          go_quiet (fail)
          go_wp2
          go_roundw
          case rel =>
            refine ⟨k + 1, cur.setIfInBounds x (.int .i64 (movedG s.data.toList ts (gapsOf gs) k : Nat)), by omega, by go_num, ?_, ?_, ?_, ?_⟩
            · rw [hbst.out, str_step, HX.out, HY.out, HG.out]
              rfl
            · have e : ((movedG s.data.toList ts (gapsOf gs) k : Nat) : Int) = (B.length : Int) + (G0.length : Int) := by rw [HBL.out, HG.out]; simp
              rw [e]
              exact Lib.hid (heap_setCell_same _ _ _ _ _ _ HCu.out)
            · exact Lib.hid (by have := hmst.out; rw [hgx.out] at this; exact this)
            · exact Lib.hid (below_drewN ((below_drewN HW.out _).grown (set_grown _ w3.heap.size x _) HW.out.size (fun k e => by cases e; exact Nat.le_refl _)) _)
          case measure => simp [intOf]; omega
      · have hgpI : ¬ (0 : Int) < (n : Int) := by omega
        have HG : Hid (gapsOf gs k = [32]) := Lib.hid (by unfold gapsOf; rw [if_pos (by have := HN.out; omega)])
        go_wp2
        go_quiet (fail)
        go_wp2
        go_quiet (fail)
        go_wp2
        go_roundw
        case rel =>
          refine ⟨k + 1, cur.setIfInBounds x (.int .i64 (movedG s.data.toList ts (gapsOf gs) k : Nat)), by omega, by go_num, ?_, ?_, ?_, ?_⟩
          · rw [hbst.out, str_step, HX.out, HY.out, HG.out]
            rfl
          · have e : ((movedG s.data.toList ts (gapsOf gs) k : Nat) : Int) = (B.length : Int) + 1 := by rw [HBL.out, HG.out]; simp
            rw [e]
            exact Lib.hid (heap_setCell_same _ _ _ _ _ _ HCu.out)
          · exact Lib.hid (by have := hmst.out; rw [hgx.out] at this; exact this)
          · exact Lib.hid (below_drewN ((below_drewN HW.out _).grown (set_grown _ w3.heap.size x _) HW.out.size (fun k e => by cases e; exact Nat.le_refl _)) _)
        case measure => simp [intOf]; omega
    · have hI : ¬ (k : Int) < (ts.length : Int) := by omega
      obtain rfl : k = ts.length := by omega
      have HL2 : Hid (blOf s.data.toList (gapsOf gs) 0 (ts.take ts.length) = blOf s.data.toList (gapsOf gs) 0 ts) := Lib.hid (by rw [List.take_length])
      generalize blOf s.data.toList (gapsOf gs) 0 (ts.take ts.length) = l2 at hbs HL2
      have hmz : w3.heap.size < wr.heap.size := (Array.getElem?_eq_some_iff.1 HCu.out).1
      have HWW := Lib.hid (HB3.out.trans (HW.out.mono HB3.out.size))
      by_cases hbig : 4096 < l2.length
      · have hI2 : (4096 : Int) < (l2.length : Int) := by omega
        go_wp2
        go_ret
        exact ⟨rfl, HWW.out⟩
      · have hI2 : ¬ (4096 : Int) < (l2.length : Int) := by omega
        have hcase := blanks_cases HS.out (G := gapsOf gs) (fun i => gp_of gs i) (by rw [← HL2.out]; omega)
        rw [← HL2.out] at hcase
        have PC2 := Lib.hid (fun W h => parse_c ⟨l2.toArray⟩ W (by show l2.toArray.size ≤ _; simp; omega) h)
        have e2 : (⟨l2.toArray⟩ : ByteArray).data.toList = l2 := by simp
        rw [e2] at PC2
        clear e2 hbig HL2
        rcases hcase with ⟨ps, offs, hp1, hp2, hlt⟩ | ⟨c, j, hp1, hp2, hj, hc1, hc2⟩
        · have hlen := (either_len hp1)
          rw [hp1] at PC
          rw [hp2] at PC2
          have HLT := Lib.hid hlt
          obtain ⟨hps, hk, hol⟩ := hlen
          rw [List.length_map] at hol
          have HK := Lib.hid hk
          obtain ⟨o1, ho1⟩ : ∃ o1, o1 = offs.map (placeT ts) := ⟨_, rfl⟩
          obtain ⟨o2, ho2⟩ : ∃ o2, o2 = offs.map (movedG s.data.toList ts (gapsOf gs)) := ⟨_, rfl⟩
          rw [← ho1] at PC
          rw [← ho2] at PC2
          have HO1 := Lib.hid ho1
          have HO2 := Lib.hid ho2
          have HL1 : Hid (o1.length = ps.length) := Lib.hid (by rw [ho1, List.length_map, hol])
          have HL2 : Hid (o2.length = ps.length) := Lib.hid (by rw [ho2, List.length_map, hol])
          have HOL := Lib.hid hol
          clear hp1 hp2 hlt ho1 ho2 hol hk
          go_wp2_with (first
            | (go_at_call 14; refine (sameTree_any hps (HT8.out.below (((Below.refl _ w8).alloc (Nat.le_refl _) _).alloc (by simp) _)) (HU8.out.below (((Below.refl _ w8).alloc (Nat.le_refl _) _).alloc (by simp) _)) HK.out).mono ?_; rintro e w9 ⟨rfl, hB9⟩; have E89 := Lib.hid ((((Below.refl _ w8).alloc (Nat.le_refl _) _).alloc (by simp) _).trans (hB9.mono (by simp; omega))); have HB9 := Lib.hid (((HB8.out.alloc HB8.out.size _).alloc (by have := HB8.out.size; simp; omega) _).trans (hB9.mono (by have := HB8.out.size; simp; omega))); clear hB9)
            | (go_at_call 9; refine (H.read_nil _).mono ?_; rintro e w8 ⟨rfl, hB8⟩; have HT8 := Lib.hid (HT7.out.below hB8); have HU8 := Lib.hid (HU7.out.below hB8); have b11 := cell_keep hB8 hq7 c11; have b14 := cell_keep hB8 hq7b c14; have hq8 : w5.heap.size < w8.heap.size := Nat.lt_of_lt_of_le hq7 hB8.size; have hq8b : w6.heap.size < w8.heap.size := Nat.lt_of_lt_of_le hq7b hB8.size; have hl11 := ld1 ((w8.alloc (.cells (H.fcells 0 0 ⟨#[]⟩) 35)).alloc (.cells (H.fcells 0 0 ⟨#[]⟩) 35)) _ _ ((Below.cell (((Below.refl _ w8).alloc (Nat.le_refl _) _).alloc (by simp) _) hq8).trans b11); have hl14 := ld1 ((w8.alloc (.cells (H.fcells 0 0 ⟨#[]⟩) 35)).alloc (.cells (H.fcells 0 0 ⟨#[]⟩) 35)) _ _ ((Below.cell (((Below.refl _ w8).alloc (Nat.le_refl _) _).alloc (by simp) _) hq8b).trans b14); have HB8 := Lib.hid (HB7.out.trans (hB8.mono HB7.out.size)); clear hB8 c11 c14)
            | (go_at_call 9; refine (H.read_nil _).mono ?_; rintro e w7 ⟨rfl, hB7⟩; have HT7 := Lib.hid (HT6.out.below (((Below.refl _ w6).alloc (Nat.le_refl _) _).trans (hB7.mono (by simp)))); have HU7 := Lib.hid (HU6.out.below (((Below.refl _ w6).alloc (Nat.le_refl _) _).trans (hB7.mono (by simp)))); have c14 : w7.cell? ⟨w6.heap.size, 0, none⟩ = some (.slice av2 ps.length ps.length) := cell_keep hB7 (by simp) ((Lib.cell_of_heap (Go.heap_alloc_new w6 _) 0).trans rfl); have c11 : w7.cell? ⟨w5.heap.size, 0, none⟩ = some (.slice av ps.length ps.length) := cell_keep hB7 (by simp; omega) ((Below.cell ((Below.refl _ w6).alloc (Nat.le_refl _) _) hq6).trans d11); have hq7 : w5.heap.size < w7.heap.size := (by have := hB7.size; simp at this; omega); have hq7b : w6.heap.size < w7.heap.size := (by have := hB7.size; simp at this; omega); have HB7 := Lib.hid ((HB6.out.alloc HB6.out.size _).trans (hB7.mono (by have := HB6.out.size; simp; omega))); clear hB7 d11)
            | (go_at_call 8; refine (PC2.out _ (HL.out.below (HWW.out.trans ((HB5.out.alloc HB5.out.size _).mono HWW.out.size)))).mono ?_; rintro e w6 ⟨hB6, vp2, vo2, kv2, rfl, hU⟩; obtain ⟨av2, rfl⟩ := hU.parts.shp; obtain ⟨ao2, hao2⟩ := hU.offs.shp; rw [HL2.out] at hao2; subst hao2; have HU6 := Lib.hid hU; have d11 : w6.cell? ⟨w5.heap.size, 0, none⟩ = some (.slice av ps.length ps.length) := cell_keep hB6 (by simp) ((Lib.cell_of_heap (Go.heap_alloc_new w5 _) 0).trans rfl); have hq6 : w5.heap.size < w6.heap.size := (by have := hB6.size; simp at this; omega); have HT6 := Lib.hid (HT5.out.below (((Below.refl _ w5).alloc (Nat.le_refl _) _).trans (hB6.mono (by simp)))); have HB6 := Lib.hid ((HB5.out.alloc HB5.out.size _).trans (hB6.mono (by have := HB5.out.size; simp; omega))); clear hB6 hU)
            | (go_at_call 8; refine (PC.out _ (HL.out.below HWW.out)).mono ?_; rintro e w5 ⟨hB5, vp, vo, kv, rfl, hT⟩; obtain ⟨av, rfl⟩ := hT.parts.shp; obtain ⟨ao, hao⟩ := hT.offs.shp; rw [HL1.out] at hao; subst hao; have HT5 := Lib.hid hT; have HB5 := Lib.hid hB5; clear hB5 hT))
          have HMo : Hid (w9.heap[w3.heap.size]? = some (.cells cur 3 (0, 0))) := Lib.hid ((HB9.out.block _ hmz).trans HCu.out)
          have hmz9 : w3.heap.size < w9.heap.size := Nat.lt_of_lt_of_le hmz HB9.out.size
          go_loopw [19] (fun v wq => ∃ m : Nat, m ≤ ps.length ∧ v = .int .i64 m ∧ ∃ nd, w9.drewN nd = wq) (fun v _ => ps.length - (intOf v).toNat)
          case atStart => exact ⟨0, by omega, rfl, 0, World.drewN_zero _⟩
          case round =>
            obtain ⟨m, hm, rfl, nd, rfl⟩ := hrel
            by_cases hlm : m < ps.length
            · have hI3 : (m : Int) < (ps.length : Int) := by omega
              have hmo : m < offs.length := by rw [HOL.out]; exact hlm
              obtain ⟨go, hg3, hg4, hg5, hoc⟩ := HT8.out.offs.form (by rw [HL1.out]; omega)
              obtain ⟨gp, hg6, hg7, hg8, hoc2⟩ := HU8.out.offs.form (by rw [HL2.out]; omega)
              have hg3' : ao = some ⟨go, 0, none⟩ := (by injection hg3)
              have hg6' : ao2 = some ⟨gp, 0, none⟩ := (by injection hg6)
              clear hg3 hg6
              have hol := HLT.out _ (List.getElem_mem hmo)
              have d1 : w9.cell? ⟨go, m, none⟩ = some (.int .i64 (placeT ts offs[m] : Nat)) := cell_keep E89.out hg5 (by rw [hoc m (by rw [HL1.out]; omega), HO1.out, List.map_map, List.getElem?_map, List.getElem?_eq_getElem hmo]; rfl)
              have d2 : w9.cell? ⟨gp, m, none⟩ = some (.int .i64 (movedG s.data.toList ts (gapsOf gs) offs[m] : Nat)) := cell_keep E89.out hg8 (by rw [hoc2 m (by rw [HL2.out]; omega), HO2.out, List.map_map, List.getElem?_map, List.getElem?_eq_getElem hmo]; rfl)
              have d3 : w9.cell? ⟨w3.heap.size, placeT ts offs[m], none⟩ = some (.int .i64 (movedG s.data.toList ts (gapsOf gs) offs[m] : Nat)) := (Lib.cell_of_heap HMo.out _).trans (HM.out.get hol _ rfl)
              have hpl := place_le HC.out offs[m]
              have hx0 : placeT ts offs[m] ≤ s.size := by have h4 : s.data.toList.length = s.size := (by simp); omega
              have hgo9 : go < w9.heap.size := Nat.lt_of_lt_of_le hg5 E89.out.size
              have hgp9 : gp < w9.heap.size := Nat.lt_of_lt_of_le hg8 E89.out.size
              clear hoc hoc2 hpl hol
              subst hg3' hg6'
              generalize placeT ts offs[m] = x at d1 d3 hx0
              generalize movedG s.data.toList ts (gapsOf gs) offs[m] = y at d2 d3
              clear hmo
              have hx1 : (x : Int) < (s.size : Int) + 1 := by omega
              have hd0 : decide ((x : Int) < 0) = false := decide_eq_false (by omega)
              have hd1 : decide ((s.size : Int) < (x : Int)) = false := decide_eq_false (by omega)
              go_wp2
              go_quiet (fail)
              go_wp2
              go_roundw
              case rel => exact ⟨m + 1, by omega, by go_num, _, rfl⟩
              case measure => simp [intOf]; omega
            · have hI3 : ¬ (m : Int) < (ps.length : Int) := by omega
              go_wp2
              go_ret
              exact ⟨rfl, HWW.out.trans ((below_drewN HB9.out _).mono HWW.out.size)⟩
        · rw [hp1] at PC
          rw [hp2] at PC2
          have hpl := place_le HC.out j
          have hx0 : placeT ts j ≤ s.size := by have h4 : s.data.toList.length = s.size := (by simp); omega
          have HMg := Lib.hid (HM.out.get hj _ rfl)
          obtain ⟨x, hx⟩ : ∃ x, x = placeT ts j := ⟨_, rfl⟩
          obtain ⟨y, hy⟩ : ∃ y, y = movedG s.data.toList ts (gapsOf gs) j := ⟨_, rfl⟩
          rw [← hx] at PC HMg hx0
          rw [← hy] at PC2 HMg
          clear hp1 hp2 hpl hj hx hy
          have HC0 : Hid (c ≠ 0) := Lib.hid (by omega)
          have hc0 : (c != 0) = true := by rw [bne_iff_ne]; omega
          have hx1 : (x : Int) < (s.size : Int) + 1 := by omega
          have hd0 : decide ((x : Int) < 0) = false := decide_eq_false (by omega)
          have hd1 : decide ((s.size : Int) < (x : Int)) = false := decide_eq_false (by omega)
          have heq := H.f_eql
          go_wp2_with (first
            | (go_at_call 9; refine (read_err2 (c := c) (a := (y : Nat)) _ G7.out HC0.out).mono ?_; rintro e w8 ⟨rfl, hB8⟩; have hmv : w8.cell? ⟨w3.heap.size, x, none⟩ = some (.int .i64 (y : Nat)) := (Lib.cell_of_heap ((hB8.block _ hm7).trans M7.out) _).trans HMg.out; have hm8 : w3.heap.size < w8.heap.size := Nat.lt_of_lt_of_le hm7 hB8.size; have hl17 := H.l_cells ((w8.alloc (.cells (H.fcells c (y : Nat) ⟨#[]⟩) 35)).alloc (.cells (H.fcells c (y : Nat) ⟨#[]⟩) 35)) w8.heap.size _ c (y : Nat) ⟨#[]⟩ ((Below.heap_alloc _ _ _ (by simp)).trans (Go.heap_alloc_new w8 _)); have hl18 := H.l_cells ((w8.alloc (.cells (H.fcells c (y : Nat) ⟨#[]⟩) 35)).alloc (.cells (H.fcells c (y : Nat) ⟨#[]⟩) 35)) (w8.heap.size + 1) _ c (y : Nat) ⟨#[]⟩ (heap_alloc2_new w8 _ _); have HB8 := Lib.hid (HB7.out.trans (hB8.mono HB7.out.size)); clear hB8)
            | (go_at_call 9; refine (read_err2 (c := c) (a := (x : Nat)) _ ((Below.heap_alloc _ _ _ (Array.getElem?_eq_some_iff.1 F6.out).1).trans F6.out) HC0.out).mono ?_; rintro e w7 ⟨rfl, hB7⟩; have E67 : Below w6.heap.size w6 w7 := ((Below.refl _ w6).alloc (Nat.le_refl _) _).trans (hB7.mono (by simp)); have G7 := Lib.hid ((E67.block _ (Array.getElem?_eq_some_iff.1 G6.out).1).trans G6.out); have M7 := Lib.hid ((E67.block _ hm6).trans M6.out); have hm7 : w3.heap.size < w7.heap.size := Nat.lt_of_lt_of_le hm6 E67.size; have HB7 := Lib.hid ((HB6.out.alloc HB6.out.size _).trans (hB7.mono (by have := HB6.out.size; simp; omega))); clear hB7 E67)
            | (go_at_call 8; refine (PC2.out _ (HL.out.below (HWW.out.trans ((HB5.out.alloc HB5.out.size _).mono HWW.out.size)))).mono ?_; rintro e w6 ⟨hB6, b6, rfl, g1, g2⟩; have E56 : Below w5.heap.size w5 w6 := ((Below.refl _ w5).alloc (Nat.le_refl _) _).trans (hB6.mono (by simp)); have G6 := Lib.hid g2; have F6 := Lib.hid ((E56.block _ (Array.getElem?_eq_some_iff.1 F5.out).1).trans F5.out); have M6 := Lib.hid ((E56.block _ hm5).trans M5.out); have hm6 : w3.heap.size < w6.heap.size := Nat.lt_of_lt_of_le hm5 E56.size; have HB6 := Lib.hid ((HB5.out.alloc HB5.out.size _).trans (hB6.mono (by have := HB5.out.size; simp; omega))); clear hB6 g1 g2 E56)
            | (go_at_call 8; refine (PC.out _ (HL.out.below HWW.out)).mono ?_; rintro e w5 ⟨hB5, b5, rfl, g1, g2⟩; have F5 := Lib.hid g2; have M5 : Hid (w5.heap[w3.heap.size]? = some (.cells cur 3 (0, 0))) := Lib.hid ((hB5.block _ hmz).trans HCu.out); have hm5 : w3.heap.size < w5.heap.size := Nat.lt_of_lt_of_le hmz hB5.size; have HB5 := Lib.hid hB5; clear hB5 g1 g2))
          go_ret
          exact ⟨by simp, HWW.out.trans (((HB8.out.alloc HB8.out.size _).alloc (by have := HB8.out.size; simp; omega) _).mono HWW.out.size)⟩
end
theorem parseBlanks_any (s : ByteArray) (v : Value) (gs : List Int) (w : World) (hs : s.size ≤ 140737488355328) (hl : gs.length ≤ 9223372036854775807) (hwf : ∀ g ∈ gs, (Lit.int .i64 g).wf = true) (hat : IntsG w v gs) (hL : LW w) :
    Calls Tryd.prog 4 #[.string s, v] w fun e w' => e = .returned (.bool true) ∧ Below w.heap.size w w' := by
  cases h : scanL s.data.toList with
  | mk ts f =>
    cases f with
    | some f => exact blanks_scanErr s v w hs hL ts f h
    | none =>
      rcases hat with ⟨rfl, rfl⟩ | ⟨a, cap, rfl, hc⟩
      · exact blanks_ok s none 0 0 [] w hs rfl (by omega) hwf (fun h => absurd h (by omega)) hL ts h
      · exact blanks_ok s (some a) gs.length cap gs w hs rfl hl hwf (fun _ => ⟨a, rfl, hc⟩) hL ts h

end Go.Proofs.YtghhnnbbjlipcaaDoor.X
