/-
  The walk of ParseRest.
-/
import Derived.Test.YtghhnnbbjlipcaaDoorParWake
import Derived.Test.YtghhnnbbjlipcaaDoorPlRest
set_option linter.unusedVariables false
set_option linter.unusedSimpArgs false
namespace Go.Proofs.YtghhnnbbjlipcaaDoor.X
open Go.RowKit
theorem st1 (w : World) (a : Option Addr) (n c : Nat) (x : Value) (t : TypeId) : (storeCells ⟨w.heap.size, 0, none⟩ [.slice a n c]).run Tryd.prog (w.alloc (.cells #[x] t)) = .ok () (w.alloc (.cells #[.slice a n c] t)) := by
  simp [go_sem]
theorem RowIn.shape {w : World} {base e size n : Nat} {v : Value} {xs : List Value} (h : RowIn w base e size v n xs) : ∃ a, v = .slice a n n := by
  rcases h.at_ with ⟨h1, h2⟩ | ⟨g, cur, h1, _⟩
  · exact ⟨none, by rw [h1, h2]⟩
  · exact ⟨_, h1⟩
attribute [-go_sem] storeCells loadCells loadCellsFrom
attribute [local go_sem] H.sc1 H.sc2 H.lc2 H.sc3 st1
theorem assert_fault (a : Addr) (w : World) : (Instr.typeAssert (Value.iface 62 (.pointer (some a))) 28 62 true).run Tryd.prog w = .ok (.tuple #[.pointer (some a), .bool true]) w := by kernel_rfl
/-- Read, of the error that Parse answers. -/
theorem read_err (w : World) {b : Nat} {c a : Int} (h : w.heap[b]? = some (faultObj c a)) (hc : c ≠ 0) : Calls Tryd.prog 9 #[.iface 62 (.pointer (some ⟨b, 0, none⟩))] w fun e w' => e = .returned (.agg (H.fcells c a ⟨#[]⟩)) ∧ Below w.heap.size w w' :=
  H.read_any _ (some (c, a)) w (err_is h (by simpa using hc))
theorem read_ok (w : World) : Calls Tryd.prog 9 #[.nilIface] w fun e w' => e = .returned (.agg (H.fcells 0 0 ⟨#[]⟩)) ∧ Below w.heap.size w w' :=
  H.read_any _ none w rfl
theorem tok_open {ts : List Tk} {w2 : World} {base : Nat} {v : Value} (hv : TokSl w2 base v ts) (h0 : 0 < ts.length) : ∃ g cap, g < w2.heap.size ∧ (∀ k (h : k < ts.length) j u, (tokCells ts[k]).toList[j]? = some u → w2.cell? ⟨g, k * 5 + j, none⟩ = some u) ∧ v = .slice (some ⟨g, 0, none⟩) ts.length cap := by
  rcases tokAt_of_own hv with ⟨_, h⟩ | ⟨g, cap, h1, h2, h3⟩
  · rw [h] at h0; simp at h0
  · exact ⟨g, cap, h2, h3, h1⟩
set_option maxHeartbeats 8000000 in
set_option maxRecDepth 100000 in
theorem parseRest_any (s m : ByteArray) (w : World) (hs : s.size ≤ 140737488355328) (hm : m.size ≤ 140737488355328) (hL : LW w) :
    Calls Tryd.prog 5 #[.string s, .string m] w fun e w' => e = .returned (.bool true) ∧ Below w.heap.size w w' := by
  have HL := Lib.hid hL
  have PC := Lib.hid (fun W h => parse_c s W (by omega) h)
  clear hL
  rcases rest_cases s.data.toList with ⟨⟨ps, offs⟩, hr⟩ | ⟨f, hr, h0, h1, h2, h3⟩ | ⟨c, ts, j, hr, hR⟩
  · rw [hr] at PC
    clear hr
    go_enter Tryd.func5, Tryd.ntmps5
    go_wp2_with (first
      | (go_at_call 9; refine (read_ok _).mono ?_; rintro e w4 ⟨rfl, hB4⟩; have HB4 := Lib.hid ((HB3.out.alloc HB3.out.size _).trans (hB4.mono (by simp; have := HB3.out.size; omega))); clear hB4)
      | (go_at_call 8; refine (PC.out _ (HL.out.below HB2.out)).mono ?_; rintro e w3 ⟨hB3, vp, vo, kv, rfl, hT⟩; obtain ⟨av, rfl⟩ := hT.parts.shape; have HB3 := Lib.hid (HB2.out.trans (hB3.mono HB2.out.size)); clear hB3 hT)
      | (go_at_call 7; refine (wakes_any _ HL.out).mono ?_; rintro e w2 ⟨rfl, hB2⟩; have HB2 := Lib.hid hB2; clear hB2))
    go_ret
    exact ⟨rfl, HB4.out.alloc HB4.out.size _⟩
  · rw [hr] at PC
    have e1 : (f.1 != 120) = true := by rw [bne_iff_ne]; exact h1
    have e2 : (f.1 != 122) = true := by rw [bne_iff_ne]; exact h2
    have e3 : (f.1 != 124) = true := by rw [bne_iff_ne]; exact h3
    have H0 := Lib.hid h0
    clear hr h0 h1 h2 h3
    go_enter Tryd.func5, Tryd.ntmps5
    go_wp2_with (first
      | (go_at_call 9; refine (read_err _ ((Below.heap_alloc _ _ _ (Array.getElem?_eq_some_iff.1 HF3.out).1).trans HF3.out) H0.out).mono ?_; rintro e w4 ⟨rfl, hB4⟩; have HB4 := Lib.hid ((HB3.out.alloc HB3.out.size _).trans (hB4.mono (by simp; have := HB3.out.size; omega))); clear hB4)
      | (go_at_call 8; refine (PC.out _ (HL.out.below HB2.out)).mono ?_; rintro e w3 ⟨hB3, b, rfl, hb1, hb2⟩; have HF3 := Lib.hid hb2; have HB3 := Lib.hid (HB2.out.trans (hB3.mono HB2.out.size)); clear hB3 hb1 hb2)
      | (go_at_call 7; refine (wakes_any _ HL.out).mono ?_; rintro e w2 ⟨rfl, hB2⟩; have HB2 := Lib.hid hB2; clear hB2))
    go_ret
    exact ⟨rfl, HB4.out.alloc HB4.out.size _⟩
  · have PS := Lib.hid (fun W h => scan_any s W (by omega) h)
    rw [hr] at PC
    rw [hR.scan] at PS
    have HR := Lib.hid hR
    have hj := hR.lt
    have hpos := hR.pos
    have hin : ts[j].end_ ≤ s.size := by have := hR.inn; rwa [Array.length_toList] at this
    have hsh : s.size ≤ 4096 := by have := hR.short; rwa [Array.length_toList] at this
    have hpl := hR.place
    rw [hpl] at PC
    have hlen : ts.length ≤ 4097 := (scan_TOK hR.scan).1.len
    have hcode := hR.code
    clear hr
    rcases hcode with rfl | rfl | rfl
    · obtain ⟨pa, hpa⟩ : ∃ pa, pa = ts[j].at_ := ⟨_, rfl⟩
      rw [← hpa] at PC
      have HPA := Lib.hid hpa
      clear hpa
      go_enter Tryd.func5, Tryd.ntmps5
      go_wp2_with (first
        | (go_at_call 12; refine (PS.out _ (HL.out.below (HB4.out.alloc HB4.out.size _))).mono ?_; rintro e w5 ⟨hB5, v5, hv, rfl⟩; obtain ⟨gt, ct, hgt, hcells, rfl⟩ := tok_open (ts := ts) hv (by omega); have hg8 : w4.heap.size < w5.heap.size := (by have := hB5.size; simp at this; omega); have z1 : w5.cell? ⟨w4.heap.size, 1, none⟩ = some (.int .i64 (pa : Nat)) := cell_keep hB5 (by simp) ((Lib.cell_of_heap (Go.heap_alloc_new w4 _) 1).trans rfl); have HG8 : Hid (w5.heap[w4.heap.size]? = some (.cells (H.fcells 120 (pa : Nat) ⟨#[]⟩) 35 (0, 0))) := Lib.hid ((hB5.block _ (by simp)).trans (Go.heap_alloc_new w4 _)); have HC := Lib.hid hcells; have HB5 := Lib.hid ((HB4.out.alloc HB4.out.size _).trans (hB5.mono (by simp; have := HB4.out.size; omega))); clear hB5 hv hcells)
        | (go_at_call 9; refine (read_err _ ((Below.heap_alloc _ _ _ (Array.getElem?_eq_some_iff.1 HF3.out).1).trans HF3.out) (by decide)).mono ?_; rintro e w4 ⟨rfl, hB4⟩; have HB4 := Lib.hid ((HB3.out.alloc HB3.out.size _).trans (hB4.mono (by simp; have := HB3.out.size; omega))); clear hB4)
        | (go_at_call 8; refine (PC.out _ (HL.out.below HB2.out)).mono ?_; rintro e w3 ⟨hB3, b, rfl, hb1, hb2⟩; have HF3 := Lib.hid hb2; have HB3 := Lib.hid (HB2.out.trans (hB3.mono HB2.out.size)); clear hB3 hb1 hb2)
        | (go_at_call 7; refine (wakes_any _ HL.out).mono ?_; rintro e w2 ⟨rfl, hB2⟩; have HB2 := Lib.hid hB2; clear hB2))
      go_loopw [11] (fun v wr => ∃ k : Nat, k ≤ j ∧ v = .int .i64 k ∧ Hid (Below w5.heap.size w5 wr)) (fun v _ => j - (intOf v).toNat)
      case atStart => exact ⟨0, by omega, rfl, Lib.hid (Below.refl _ _)⟩
      case round =>
        obtain ⟨k, hk, rfl, HW⟩ := hrel
        have hI : (k : Int) < (ts.length : Int) := by omega
        have y1 : wr.cell? ⟨w4.heap.size, 1, none⟩ = some (.int .i64 (pa : Nat)) := cell_keep HW.out hg8 z1
        have a3 : wr.cell? ⟨gt, k * 5 + 3, none⟩ = some (.int .i64 (ts[k].at_ : Nat)) := cell_keep HW.out hgt (HC.out k (by omega) 3 _ rfl)
        have a4 : wr.cell? ⟨gt, k * 5 + 4, none⟩ = some (.int .i64 (ts[k].end_ : Nat)) := cell_keep HW.out hgt (HC.out k (by omega) 4 _ rfl)
        by_cases hlt : k < j
        · have e0 : ((ts[k].at_ : Int) != (pa : Int)) = true := by rw [bne_iff_ne, HPA.out]; exact HR.out.first k hlt
          generalize ts[k].at_ = x at a3 e0
          generalize ts[k].end_ = y at a4
          go_wp2
          go_quiet (fail)
          go_wp2
          go_roundw
          case rel => exact ⟨k + 1, by omega, by go_num, Lib.hid (below_drewN HW.out _)⟩
          case measure => simp [intOf]; omega
        · obtain rfl : k = j := by omega
          rw [← HPA.out] at a3
          rw [← HPA.out] at hpos
          have hyp : (pa : Int) < (ts[k].end_ : Int) := by omega
          have hyi : (ts[k].end_ : Int) ≤ (s.size : Int) := by omega
          obtain ⟨y, hy⟩ : ∃ y, y = ts[k].end_ := ⟨_, rfl⟩
          rw [← hy] at a4 hyp hyi hpos hin
          have HY := Lib.hid hy
          clear hy
          have hd1 : decide ((y : Int) ≤ (pa : Int)) = false := decide_eq_false (by omega)
          have hd2 : decide ((s.size : Int) < (y : Int)) = false := decide_eq_false (by omega)
          go_wp2
          go_quiet (fail)
          go_wp2
          go_quiet (fail)
          have hol : (s.extract 0 y ++ ⟨#[10]⟩ ++ m).data.toList = s.data.toList.take y ++ (10 :: m.data.toList) := by simp
          have hos : (s.extract 0 y ++ ⟨#[10]⟩ ++ m).size ≤ 9223372036854775807 := by
            rw [ByteArray.size_append, ByteArray.size_append, ByteArray.size_extract]
            have : (⟨#[10]⟩ : ByteArray).size = 1 := rfl
            omega
          have SO := Lib.hid (fun W h => scan_any (s.extract 0 y ++ ⟨#[10]⟩ ++ m) W hos h)
          have PO := Lib.hid (fun W h => parse_c (s.extract 0 y ++ ⟨#[10]⟩ ++ m) W hos h)
          rw [hol] at SO PO
          have HWW := Lib.hid (HB5.out.trans (HW.out.mono HB5.out.size))
          cases hsc : scanL (s.data.toList.take y ++ (10 :: m.data.toList)) with
          | mk ts2 f2 =>
            cases f2 with
            | some f2 =>
              rw [hsc] at SO
              clear hsc PO
              go_wp2_with (go_at_call 12; refine (SO.out _ (HL.out.below (below_drewN HWW.out _))).mono ?_; rintro e w6 ⟨hB6, b6, rfl, h61, h62⟩; have HB6 := Lib.hid ((below_drewN HWW.out _).trans (hB6.mono (below_drewN HWW.out _).size)); clear hB6 h61 h62)
              go_ret
              exact ⟨rfl, HB6.out⟩
            | none =>
              have hst := HR.out.stays (x := 10 :: m.data.toList) rfl (by rw [← HY.out]; exact hsc)
              rw [← HY.out, HR.out.place, ← HPA.out] at hst
              rw [hsc] at SO
              rw [hst] at PO
              have heq := H.f_eql
              have hg8r : w4.heap.size < wr.heap.size := Nat.lt_of_lt_of_le hg8 HW.out.size
              have HG8r : Hid (wr.heap[w4.heap.size]? = some (.cells (H.fcells 120 (pa : Nat) ⟨#[]⟩) 35 (0, 0))) := Lib.hid ((HW.out.block _ hg8).trans HG8.out)
              clear hsc hst
              go_wp2_with (first
                | (go_at_call 8; refine (PO.out _ (HL.out.below HB6.out)).mono ?_; rintro e w7 ⟨hB7, b7, rfl, h71, h72⟩; have HF7 := Lib.hid h72; have HG7 : Hid (w7.heap[w4.heap.size]? = some (.cells (H.fcells 120 (pa : Nat) ⟨#[]⟩) 35 (0, 0))) := Lib.hid ((hB7.block _ hg86).trans HG6.out); have hg87 : w4.heap.size < w7.heap.size := Nat.lt_of_lt_of_le hg86 hB7.size; have HB7 := Lib.hid (HB6.out.trans (hB7.mono HB6.out.size)); clear hB7 h71 h72)
                | (go_at_call 12; refine (SO.out _ (HL.out.below (below_drewN HWW.out _))).mono ?_; rintro e w6 ⟨hB6, v6, hv6, rfl⟩; have hg86 : w4.heap.size < w6.heap.size := Nat.lt_of_lt_of_le hg8r hB6.size; have HG6 : Hid (w6.heap[w4.heap.size]? = some (.cells (H.fcells 120 (pa : Nat) ⟨#[]⟩) 35 (0, 0))) := Lib.hid ((hB6.block _ hg8r).trans HG8r.out); have HB6 := Lib.hid ((below_drewN HWW.out _).trans (hB6.mono (below_drewN HWW.out _).size)); clear hB6 hv6))
              have hl7 : (loadCells ⟨w4.heap.size, 0, none⟩ 19).run Tryd.prog ((w7.alloc (.cells #[.slice none 0 0] 25)).drew) = .ok (H.fcells 120 (pa : Nat) ⟨#[]⟩) ((w7.alloc (.cells #[.slice none 0 0] 25)).drew) := H.l_cells _ _ _ _ _ _ ((Below.heap_alloc _ _ _ hg87).trans HG7.out)
              go_region_with (go_at_call 9; go_loud (refine (read_err (c := 120) (a := (pa : Nat)) _ ?hh (by decide)).mono ?_; (case hh => exact (Below.heap_alloc _ _ _ (Array.getElem?_eq_some_iff.1 HF7.out).1).trans HF7.out); rintro e w8 ⟨rfl, hB8⟩; have hl8 : (loadCells ⟨w4.heap.size, 0, none⟩ 19).run Tryd.prog w8 = .ok (H.fcells 120 (pa : Nat) ⟨#[]⟩) w8 := H.l_cells _ _ _ _ _ _ ((hB8.block _ (by simp; omega)).trans ((Below.heap_alloc _ _ _ hg87).trans HG7.out)); have HB8 := Lib.hid ((HB7.out.alloc HB7.out.size (.cells #[.slice none 0 0] 25)).drew.trans (hB8.mono (by simp; have := HB7.out.size; omega))); clear hB8))
              all_goals go_wp2
              all_goals go_ret
              all_goals exact ⟨rfl, HB8.out⟩
    · obtain ⟨pa, hpa⟩ : ∃ pa, pa = ts[j].at_ := ⟨_, rfl⟩
      rw [← hpa] at PC
      have HPA := Lib.hid hpa
      clear hpa
      go_enter Tryd.func5, Tryd.ntmps5
      go_wp2_with (first
        | (go_at_call 12; refine (PS.out _ (HL.out.below (HB4.out.alloc HB4.out.size _))).mono ?_; rintro e w5 ⟨hB5, v5, hv, rfl⟩; obtain ⟨gt, ct, hgt, hcells, rfl⟩ := tok_open (ts := ts) hv (by omega); have hg8 : w4.heap.size < w5.heap.size := (by have := hB5.size; simp at this; omega); have z1 : w5.cell? ⟨w4.heap.size, 1, none⟩ = some (.int .i64 (pa : Nat)) := cell_keep hB5 (by simp) ((Lib.cell_of_heap (Go.heap_alloc_new w4 _) 1).trans rfl); have HG8 : Hid (w5.heap[w4.heap.size]? = some (.cells (H.fcells 122 (pa : Nat) ⟨#[]⟩) 35 (0, 0))) := Lib.hid ((hB5.block _ (by simp)).trans (Go.heap_alloc_new w4 _)); have HC := Lib.hid hcells; have HB5 := Lib.hid ((HB4.out.alloc HB4.out.size _).trans (hB5.mono (by simp; have := HB4.out.size; omega))); clear hB5 hv hcells)
        | (go_at_call 9; refine (read_err _ ((Below.heap_alloc _ _ _ (Array.getElem?_eq_some_iff.1 HF3.out).1).trans HF3.out) (by decide)).mono ?_; rintro e w4 ⟨rfl, hB4⟩; have HB4 := Lib.hid ((HB3.out.alloc HB3.out.size _).trans (hB4.mono (by simp; have := HB3.out.size; omega))); clear hB4)
        | (go_at_call 8; refine (PC.out _ (HL.out.below HB2.out)).mono ?_; rintro e w3 ⟨hB3, b, rfl, hb1, hb2⟩; have HF3 := Lib.hid hb2; have HB3 := Lib.hid (HB2.out.trans (hB3.mono HB2.out.size)); clear hB3 hb1 hb2)
        | (go_at_call 7; refine (wakes_any _ HL.out).mono ?_; rintro e w2 ⟨rfl, hB2⟩; have HB2 := Lib.hid hB2; clear hB2))
      go_loopw [11] (fun v wr => ∃ k : Nat, k ≤ j ∧ v = .int .i64 k ∧ Hid (Below w5.heap.size w5 wr)) (fun v _ => j - (intOf v).toNat)
      case atStart => exact ⟨0, by omega, rfl, Lib.hid (Below.refl _ _)⟩
      case round =>
        obtain ⟨k, hk, rfl, HW⟩ := hrel
        have hI : (k : Int) < (ts.length : Int) := by omega
        have y1 : wr.cell? ⟨w4.heap.size, 1, none⟩ = some (.int .i64 (pa : Nat)) := cell_keep HW.out hg8 z1
        have a3 : wr.cell? ⟨gt, k * 5 + 3, none⟩ = some (.int .i64 (ts[k].at_ : Nat)) := cell_keep HW.out hgt (HC.out k (by omega) 3 _ rfl)
        have a4 : wr.cell? ⟨gt, k * 5 + 4, none⟩ = some (.int .i64 (ts[k].end_ : Nat)) := cell_keep HW.out hgt (HC.out k (by omega) 4 _ rfl)
        by_cases hlt : k < j
        · have e0 : ((ts[k].at_ : Int) != (pa : Int)) = true := by rw [bne_iff_ne, HPA.out]; exact HR.out.first k hlt
          generalize ts[k].at_ = x at a3 e0
          generalize ts[k].end_ = y at a4
          go_wp2
          go_quiet (fail)
          go_wp2
          go_roundw
          case rel => exact ⟨k + 1, by omega, by go_num, Lib.hid (below_drewN HW.out _)⟩
          case measure => simp [intOf]; omega
        · obtain rfl : k = j := by omega
          rw [← HPA.out] at a3
          rw [← HPA.out] at hpos
          have hyp : (pa : Int) < (ts[k].end_ : Int) := by omega
          have hyi : (ts[k].end_ : Int) ≤ (s.size : Int) := by omega
          obtain ⟨y, hy⟩ : ∃ y, y = ts[k].end_ := ⟨_, rfl⟩
          rw [← hy] at a4 hyp hyi hpos hin
          have HY := Lib.hid hy
          clear hy
          have hd1 : decide ((y : Int) ≤ (pa : Int)) = false := decide_eq_false (by omega)
          have hd2 : decide ((s.size : Int) < (y : Int)) = false := decide_eq_false (by omega)
          go_wp2
          go_quiet (fail)
          go_wp2
          go_quiet (fail)
          have hol : (s.extract 0 y ++ ⟨#[10]⟩ ++ m).data.toList = s.data.toList.take y ++ (10 :: m.data.toList) := by simp
          have hos : (s.extract 0 y ++ ⟨#[10]⟩ ++ m).size ≤ 9223372036854775807 := by
            rw [ByteArray.size_append, ByteArray.size_append, ByteArray.size_extract]
            have : (⟨#[10]⟩ : ByteArray).size = 1 := rfl
            omega
          have SO := Lib.hid (fun W h => scan_any (s.extract 0 y ++ ⟨#[10]⟩ ++ m) W hos h)
          have PO := Lib.hid (fun W h => parse_c (s.extract 0 y ++ ⟨#[10]⟩ ++ m) W hos h)
          rw [hol] at SO PO
          have HWW := Lib.hid (HB5.out.trans (HW.out.mono HB5.out.size))
          cases hsc : scanL (s.data.toList.take y ++ (10 :: m.data.toList)) with
          | mk ts2 f2 =>
            cases f2 with
            | some f2 =>
              rw [hsc] at SO
              clear hsc PO
              go_wp2_with (go_at_call 12; refine (SO.out _ (HL.out.below (below_drewN HWW.out _))).mono ?_; rintro e w6 ⟨hB6, b6, rfl, h61, h62⟩; have HB6 := Lib.hid ((below_drewN HWW.out _).trans (hB6.mono (below_drewN HWW.out _).size)); clear hB6 h61 h62)
              go_ret
              exact ⟨rfl, HB6.out⟩
            | none =>
              have hst := HR.out.stays (x := 10 :: m.data.toList) rfl (by rw [← HY.out]; exact hsc)
              rw [← HY.out, HR.out.place, ← HPA.out] at hst
              rw [hsc] at SO
              rw [hst] at PO
              have heq := H.f_eql
              have hg8r : w4.heap.size < wr.heap.size := Nat.lt_of_lt_of_le hg8 HW.out.size
              have HG8r : Hid (wr.heap[w4.heap.size]? = some (.cells (H.fcells 122 (pa : Nat) ⟨#[]⟩) 35 (0, 0))) := Lib.hid ((HW.out.block _ hg8).trans HG8.out)
              clear hsc hst
              go_wp2_with (first
                | (go_at_call 8; refine (PO.out _ (HL.out.below HB6.out)).mono ?_; rintro e w7 ⟨hB7, b7, rfl, h71, h72⟩; have HF7 := Lib.hid h72; have HG7 : Hid (w7.heap[w4.heap.size]? = some (.cells (H.fcells 122 (pa : Nat) ⟨#[]⟩) 35 (0, 0))) := Lib.hid ((hB7.block _ hg86).trans HG6.out); have hg87 : w4.heap.size < w7.heap.size := Nat.lt_of_lt_of_le hg86 hB7.size; have HB7 := Lib.hid (HB6.out.trans (hB7.mono HB6.out.size)); clear hB7 h71 h72)
                | (go_at_call 12; refine (SO.out _ (HL.out.below (below_drewN HWW.out _))).mono ?_; rintro e w6 ⟨hB6, v6, hv6, rfl⟩; have hg86 : w4.heap.size < w6.heap.size := Nat.lt_of_lt_of_le hg8r hB6.size; have HG6 : Hid (w6.heap[w4.heap.size]? = some (.cells (H.fcells 122 (pa : Nat) ⟨#[]⟩) 35 (0, 0))) := Lib.hid ((hB6.block _ hg8r).trans HG8r.out); have HB6 := Lib.hid ((below_drewN HWW.out _).trans (hB6.mono (below_drewN HWW.out _).size)); clear hB6 hv6))
              have hl7 : (loadCells ⟨w4.heap.size, 0, none⟩ 19).run Tryd.prog ((w7.alloc (.cells #[.slice none 0 0] 25)).drew) = .ok (H.fcells 122 (pa : Nat) ⟨#[]⟩) ((w7.alloc (.cells #[.slice none 0 0] 25)).drew) := H.l_cells _ _ _ _ _ _ ((Below.heap_alloc _ _ _ hg87).trans HG7.out)
              go_region_with (go_at_call 9; go_loud (refine (read_err (c := 122) (a := (pa : Nat)) _ ?hh (by decide)).mono ?_; (case hh => exact (Below.heap_alloc _ _ _ (Array.getElem?_eq_some_iff.1 HF7.out).1).trans HF7.out); rintro e w8 ⟨rfl, hB8⟩; have hl8 : (loadCells ⟨w4.heap.size, 0, none⟩ 19).run Tryd.prog w8 = .ok (H.fcells 122 (pa : Nat) ⟨#[]⟩) w8 := H.l_cells _ _ _ _ _ _ ((hB8.block _ (by simp; omega)).trans ((Below.heap_alloc _ _ _ hg87).trans HG7.out)); have HB8 := Lib.hid ((HB7.out.alloc HB7.out.size (.cells #[.slice none 0 0] 25)).drew.trans (hB8.mono (by simp; have := HB7.out.size; omega))); clear hB8))
              all_goals go_wp2
              all_goals go_ret
              all_goals exact ⟨rfl, HB8.out⟩
    · obtain ⟨pa, hpa⟩ : ∃ pa, pa = ts[j].at_ := ⟨_, rfl⟩
      rw [← hpa] at PC
      have HPA := Lib.hid hpa
      clear hpa
      go_enter Tryd.func5, Tryd.ntmps5
      go_wp2_with (first
        | (go_at_call 12; refine (PS.out _ (HL.out.below (HB4.out.alloc HB4.out.size _))).mono ?_; rintro e w5 ⟨hB5, v5, hv, rfl⟩; obtain ⟨gt, ct, hgt, hcells, rfl⟩ := tok_open (ts := ts) hv (by omega); have hg8 : w4.heap.size < w5.heap.size := (by have := hB5.size; simp at this; omega); have z1 : w5.cell? ⟨w4.heap.size, 1, none⟩ = some (.int .i64 (pa : Nat)) := cell_keep hB5 (by simp) ((Lib.cell_of_heap (Go.heap_alloc_new w4 _) 1).trans rfl); have HG8 : Hid (w5.heap[w4.heap.size]? = some (.cells (H.fcells 124 (pa : Nat) ⟨#[]⟩) 35 (0, 0))) := Lib.hid ((hB5.block _ (by simp)).trans (Go.heap_alloc_new w4 _)); have HC := Lib.hid hcells; have HB5 := Lib.hid ((HB4.out.alloc HB4.out.size _).trans (hB5.mono (by simp; have := HB4.out.size; omega))); clear hB5 hv hcells)
        | (go_at_call 9; refine (read_err _ ((Below.heap_alloc _ _ _ (Array.getElem?_eq_some_iff.1 HF3.out).1).trans HF3.out) (by decide)).mono ?_; rintro e w4 ⟨rfl, hB4⟩; have HB4 := Lib.hid ((HB3.out.alloc HB3.out.size _).trans (hB4.mono (by simp; have := HB3.out.size; omega))); clear hB4)
        | (go_at_call 8; refine (PC.out _ (HL.out.below HB2.out)).mono ?_; rintro e w3 ⟨hB3, b, rfl, hb1, hb2⟩; have HF3 := Lib.hid hb2; have HB3 := Lib.hid (HB2.out.trans (hB3.mono HB2.out.size)); clear hB3 hb1 hb2)
        | (go_at_call 7; refine (wakes_any _ HL.out).mono ?_; rintro e w2 ⟨rfl, hB2⟩; have HB2 := Lib.hid hB2; clear hB2))
      go_loopw [11] (fun v wr => ∃ k : Nat, k ≤ j ∧ v = .int .i64 k ∧ Hid (Below w5.heap.size w5 wr)) (fun v _ => j - (intOf v).toNat)
      case atStart => exact ⟨0, by omega, rfl, Lib.hid (Below.refl _ _)⟩
      case round =>
        obtain ⟨k, hk, rfl, HW⟩ := hrel
        have hI : (k : Int) < (ts.length : Int) := by omega
        have y1 : wr.cell? ⟨w4.heap.size, 1, none⟩ = some (.int .i64 (pa : Nat)) := cell_keep HW.out hg8 z1
        have a3 : wr.cell? ⟨gt, k * 5 + 3, none⟩ = some (.int .i64 (ts[k].at_ : Nat)) := cell_keep HW.out hgt (HC.out k (by omega) 3 _ rfl)
        have a4 : wr.cell? ⟨gt, k * 5 + 4, none⟩ = some (.int .i64 (ts[k].end_ : Nat)) := cell_keep HW.out hgt (HC.out k (by omega) 4 _ rfl)
        by_cases hlt : k < j
        · have e0 : ((ts[k].at_ : Int) != (pa : Int)) = true := by rw [bne_iff_ne, HPA.out]; exact HR.out.first k hlt
          generalize ts[k].at_ = x at a3 e0
          generalize ts[k].end_ = y at a4
          go_wp2
          go_quiet (fail)
          go_wp2
          go_roundw
          case rel => exact ⟨k + 1, by omega, by go_num, Lib.hid (below_drewN HW.out _)⟩
          case measure => simp [intOf]; omega
        · obtain rfl : k = j := by omega
          rw [← HPA.out] at a3
          rw [← HPA.out] at hpos
          have hyp : (pa : Int) < (ts[k].end_ : Int) := by omega
          have hyi : (ts[k].end_ : Int) ≤ (s.size : Int) := by omega
          obtain ⟨y, hy⟩ : ∃ y, y = ts[k].end_ := ⟨_, rfl⟩
          rw [← hy] at a4 hyp hyi hpos hin
          have HY := Lib.hid hy
          clear hy
          have hd1 : decide ((y : Int) ≤ (pa : Int)) = false := decide_eq_false (by omega)
          have hd2 : decide ((s.size : Int) < (y : Int)) = false := decide_eq_false (by omega)
          go_wp2
          go_quiet (fail)
          go_wp2
          go_quiet (fail)
          have hol : (s.extract 0 y ++ ⟨#[10]⟩ ++ m).data.toList = s.data.toList.take y ++ (10 :: m.data.toList) := by simp
          have hos : (s.extract 0 y ++ ⟨#[10]⟩ ++ m).size ≤ 9223372036854775807 := by
            rw [ByteArray.size_append, ByteArray.size_append, ByteArray.size_extract]
            have : (⟨#[10]⟩ : ByteArray).size = 1 := rfl
            omega
          have SO := Lib.hid (fun W h => scan_any (s.extract 0 y ++ ⟨#[10]⟩ ++ m) W hos h)
          have PO := Lib.hid (fun W h => parse_c (s.extract 0 y ++ ⟨#[10]⟩ ++ m) W hos h)
          rw [hol] at SO PO
          have HWW := Lib.hid (HB5.out.trans (HW.out.mono HB5.out.size))
          cases hsc : scanL (s.data.toList.take y ++ (10 :: m.data.toList)) with
          | mk ts2 f2 =>
            cases f2 with
            | some f2 =>
              rw [hsc] at SO
              clear hsc PO
              go_wp2_with (go_at_call 12; refine (SO.out _ (HL.out.below (below_drewN HWW.out _))).mono ?_; rintro e w6 ⟨hB6, b6, rfl, h61, h62⟩; have HB6 := Lib.hid ((below_drewN HWW.out _).trans (hB6.mono (below_drewN HWW.out _).size)); clear hB6 h61 h62)
              go_ret
              exact ⟨rfl, HB6.out⟩
            | none =>
              have hst := HR.out.stays (x := 10 :: m.data.toList) rfl (by rw [← HY.out]; exact hsc)
              rw [← HY.out, HR.out.place, ← HPA.out] at hst
              rw [hsc] at SO
              rw [hst] at PO
              have heq := H.f_eql
              have hg8r : w4.heap.size < wr.heap.size := Nat.lt_of_lt_of_le hg8 HW.out.size
              have HG8r : Hid (wr.heap[w4.heap.size]? = some (.cells (H.fcells 124 (pa : Nat) ⟨#[]⟩) 35 (0, 0))) := Lib.hid ((HW.out.block _ hg8).trans HG8.out)
              clear hsc hst
              go_wp2_with (first
                | (go_at_call 8; refine (PO.out _ (HL.out.below HB6.out)).mono ?_; rintro e w7 ⟨hB7, b7, rfl, h71, h72⟩; have HF7 := Lib.hid h72; have HG7 : Hid (w7.heap[w4.heap.size]? = some (.cells (H.fcells 124 (pa : Nat) ⟨#[]⟩) 35 (0, 0))) := Lib.hid ((hB7.block _ hg86).trans HG6.out); have hg87 : w4.heap.size < w7.heap.size := Nat.lt_of_lt_of_le hg86 hB7.size; have HB7 := Lib.hid (HB6.out.trans (hB7.mono HB6.out.size)); clear hB7 h71 h72)
                | (go_at_call 12; refine (SO.out _ (HL.out.below (below_drewN HWW.out _))).mono ?_; rintro e w6 ⟨hB6, v6, hv6, rfl⟩; have hg86 : w4.heap.size < w6.heap.size := Nat.lt_of_lt_of_le hg8r hB6.size; have HG6 : Hid (w6.heap[w4.heap.size]? = some (.cells (H.fcells 124 (pa : Nat) ⟨#[]⟩) 35 (0, 0))) := Lib.hid ((hB6.block _ hg8r).trans HG8r.out); have HB6 := Lib.hid ((below_drewN HWW.out _).trans (hB6.mono (below_drewN HWW.out _).size)); clear hB6 hv6))
              have hl7 : (loadCells ⟨w4.heap.size, 0, none⟩ 19).run Tryd.prog ((w7.alloc (.cells #[.slice none 0 0] 25)).drew) = .ok (H.fcells 124 (pa : Nat) ⟨#[]⟩) ((w7.alloc (.cells #[.slice none 0 0] 25)).drew) := H.l_cells _ _ _ _ _ _ ((Below.heap_alloc _ _ _ hg87).trans HG7.out)
              go_region_with (go_at_call 9; go_loud (refine (read_err (c := 124) (a := (pa : Nat)) _ ?hh (by decide)).mono ?_; (case hh => exact (Below.heap_alloc _ _ _ (Array.getElem?_eq_some_iff.1 HF7.out).1).trans HF7.out); rintro e w8 ⟨rfl, hB8⟩; have hl8 : (loadCells ⟨w4.heap.size, 0, none⟩ 19).run Tryd.prog w8 = .ok (H.fcells 124 (pa : Nat) ⟨#[]⟩) w8 := H.l_cells _ _ _ _ _ _ ((hB8.block _ (by simp; omega)).trans ((Below.heap_alloc _ _ _ hg87).trans HG7.out)); have HB8 := Lib.hid ((HB7.out.alloc HB7.out.size (.cells #[.slice none 0 0] 25)).drew.trans (hB8.mono (by simp; have := HB7.out.size; omega))); clear hB8))
              all_goals go_wp2
              all_goals go_ret
              all_goals exact ⟨rfl, HB8.out⟩

end Go.Proofs.YtghhnnbbjlipcaaDoor.X
