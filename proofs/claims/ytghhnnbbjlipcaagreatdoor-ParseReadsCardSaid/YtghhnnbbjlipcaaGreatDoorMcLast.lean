/-
  The walk of Same over a tree of the program's and one of the document's machine.
  The walk of ParseReads.
-/
import Derived.Test.YtghhnnbbjlipcaaGreatDoorMcRun
import Derived.Test.YtghhnnbbjlipcaaGreatDoorParSm
import Derived.Test.YtghhnnbbjlipcaaGreatDoorPlAll
set_option linter.unusedVariables false
set_option linter.unusedSimpArgs false
namespace Go.Proofs.YtghhnnbbjlipcaaGreatDoor.X
open Go.RowKit
theorem RefAt.below {w w' : World} {base : Nat} {vp vo : Value} {kv : List Value} {ps : List PD} {offs : List Nat} (h : RefAt w base vp vo kv ps offs) (hb : Below w.heap.size w w') : RefAt w' base vp vo kv ps offs :=
  ⟨row_below h.parts hb, row_below h.offs hb, h.klen, fun i hi => row_below (h.kids i hi) hb⟩
theorem RefAt.part {w : World} {base : Nat} {av : Option Addr} {cp : Nat} {vo : Value} {kv : List Value} {ps : List PD} {offs : List Nat} (h : RefAt w base (.slice av ps.length cp) vo kv ps offs) {k : Nat} (hk : k < ps.length) :
    ∃ g a c, Value.slice av ps.length cp = .slice (some ⟨g, 0, none⟩) ps.length cp ∧ g < w.heap.size ∧ kv.getD k undef = .slice a ps[k].kids.length c ∧ w.cell? ⟨g, k * 4, none⟩ = some (.int .i64 ps[k].kind) ∧ w.cell? ⟨g, k * 4 + 1, none⟩ = some (.string ⟨ps[k].text.toArray⟩) ∧
      w.cell? ⟨g, k * 4 + 2, none⟩ = some (.int .i64 ps[k].num) ∧ w.cell? ⟨g, k * 4 + 3, none⟩ = some (.slice a ps[k].kids.length c) ∧ IntsAt w (.slice a ps[k].kids.length c) (ps[k].kids.map fun i : Nat => (i : Int)) := by
  obtain ⟨a, c, hv⟩ := own_form (h.kids k hk)
  have hi := kid_ints (h.kids k hk)
  rw [hv] at hi
  rcases h.parts.2 with ⟨h1, h2⟩ | ⟨g, cap, cur, h1, h2, h3, h4, h5, h6, h7⟩
  · omega
  · injection h1 with h1
    have h8 : ∀ j, j < 4 → w.cell? ⟨g, k * 4 + j, none⟩ = (partCells ps[k] (kv.getD k undef))[j]? := fun j hj => by
      rw [Lib.cell_of_heap h3, ← Array.getElem?_toList]
      have e : cur.toList[k * 4 + j]? = (partRow ps kv)[k * 4 + j]? := by rw [← h7, List.getElem?_take, if_pos (by omega)]
      rw [e, partRow_at ps kv h.klen k hk j hj]
    rw [hv] at h8
    exact ⟨g, a, c, by rw [h1], (Array.getElem?_eq_some_iff.1 h3).1, hv, h8 0 (by omega), h8 1 (by omega), h8 2 (by omega), h8 3 (by omega), hi⟩
set_option maxHeartbeats 8000000 in
set_option maxRecDepth 100000 in
theorem sameR_any {ps : List PD} (hl : ps.length ≤ 1000) {vp vo vp2 vo2 : Value} {kv kv2 : List Value} {offs offs2 : List Nat} {base base2 : Nat} {w : World} (hT : TreeAt w base vp vo kv ps offs) (hT2 : RefAt w base2 vp2 vo2 kv2 ps offs2) (hk : ∀ p ∈ ps, p.kids.length ≤ 1000000) :
    Calls Tryz.prog 13 #[.agg #[vp], .agg #[vp2]] w fun e w' => e = .returned (.bool true) ∧ Below w.heap.size w w' := by
  have TR := Lib.hid hT
  have TR2 := Lib.hid hT2
  obtain ⟨av, rfl⟩ := hT.parts.shp
  obtain ⟨av2, cp2, rfl⟩ := own_shape hT2.parts
  have HK := Lib.hid hk
  clear hT hT2 hk
  go_enter Tryz.func13, Tryz.ntmps13
  go_wp2
  go_loopw [5] (fun v wr => ∃ k : Nat, k ≤ ps.length ∧ v = .int .i64 k ∧ Hid (Below (w.heap.size + 2) ((w.alloc (.cells #[.slice av ps.length ps.length] 25)).alloc (.cells #[.slice av2 ps.length cp2] 25)) wr)) (fun v _ => ps.length - (intOf v).toNat)
  case atStart => exact ⟨0, by omega, rfl, Lib.hid (Below.refl _ _)⟩
  case round =>
    obtain ⟨k, hk, rfl, HB⟩ := hrel
    have hwr : w.heap.size + 1 < wr.heap.size := by have := HB.out.size; simp at this; omega
    have ct : wr.cell? ⟨w.heap.size, 0, none⟩ = some (.slice av ps.length ps.length) := cell_keep HB.out (by omega) ((Lib.cell_of_heap ((Below.heap_alloc _ _ _ (by simp)).trans (Go.heap_alloc_new w _)) 0).trans rfl)
    have ct2 : wr.cell? ⟨w.heap.size + 1, 0, none⟩ = some (.slice av2 ps.length cp2) := cell_keep HB.out (by omega) ((Lib.cell_of_heap (by have h := Go.heap_alloc_new (w.alloc (.cells #[.slice av ps.length ps.length] 25)) (.cells #[.slice av2 ps.length cp2] 25); rw [World.size_alloc] at h; exact h) 0).trans rfl)
    have hBw : Below w.heap.size w wr := (((Below.refl _ w).alloc (Nat.le_refl _) _).alloc (by simp) _).trans (HB.out.mono (by omega))
    have hw0 : w.heap.size < wr.heap.size := by omega
    by_cases hlt : k < ps.length
    · have hI : (k : Int) < (ps.length : Int) := by omega
      obtain ⟨g, a, c, hg1, hg2, hkv, d0, d1, d2, d3, hIn⟩ := TR.out.part hlt
      obtain ⟨g2, a2, c2, hg3, hg4, hkv2, e0, e1, e2, e3, hIn2⟩ := TR2.out.part hlt
      have hg1' : av = some ⟨g, 0, none⟩ := (by injection hg1)
      have hg3' : av2 = some ⟨g2, 0, none⟩ := (by injection hg3)
      clear hg1 hg3
      subst hg1' hg3'
      have d0 := cell_keep hBw hg2 d0
      have d1 := cell_keep hBw hg2 d1
      have d2 := cell_keep hBw hg2 d2
      have d3 := cell_keep hBw hg2 d3
      have e0 := cell_keep hBw hg4 e0
      have e1 := cell_keep hBw hg4 e1
      have e2 := cell_keep hBw hg4 e2
      have e3 := cell_keep hBw hg4 e3
      have KI := Lib.hid (hIn.below hBw)
      have KI2 := Lib.hid (hIn2.below hBw)
      have hkl := HK.out _ (List.getElem_mem hlt)
      have hgr : g < wr.heap.size := Nat.lt_of_lt_of_le hg2 hBw.size
      have hgr2 : g2 < wr.heap.size := Nat.lt_of_lt_of_le hg4 hBw.size
      have HBw := Lib.hid hBw
      clear hIn hIn2 hkv hkv2 hBw
      generalize ps[k] = p at d0 d1 d2 d3 e0 e1 e2 e3 KI KI2 hkl
      obtain ⟨m, hm⟩ : ∃ m, m = p.kids.length := ⟨_, rfl⟩
      have HM := Lib.hid hm
      rw [← hm] at d3 e3 KI KI2 hkl
      clear hm
      go_wp2
      go_loopw [8] (fun v wq => ∃ j : Nat, j ≤ m ∧ v = .int .i64 j ∧ ∃ nd, ((wr.alloc (.cells #[.int .i64 p.kind, .string ⟨p.text.toArray⟩, .int .i64 p.num, .slice a m c] 45)).alloc (.cells #[.int .i64 p.kind, .string ⟨p.text.toArray⟩, .int .i64 p.num, .slice a2 m c2] 45)).drewN nd = wq) (fun v _ => m - (intOf v).toNat)
      case atStart => exact ⟨0, by omega, rfl, 0, World.drewN_zero _⟩
      case round =>
        obtain ⟨j, hj, rfl, nd, rfl⟩ := hrel
        by_cases hlj : j < m
        · have hI2 : (j : Int) < (m : Int) := by omega
          obtain ⟨gk, ok, hk1, hk2, hk3⟩ := ints_cell KI.out (j := j) (by rw [List.length_map]; have := HM.out; omega)
          obtain ⟨gk2, ok2, hk4, hk5, hk6⟩ := ints_cell KI2.out (j := j) (by rw [List.length_map]; have := HM.out; omega)
          subst hk1 hk4
          generalize (p.kids.map fun i : Nat => (i : Int))[j]'(by rw [List.length_map]; have := HM.out; omega) = x at hk3 hk6
          go_wp2
          go_quiet (fail)
          go_wp2
          go_roundw
          case rel => exact ⟨j + 1, by omega, by go_num, _, rfl⟩
          case measure => simp [intOf]; omega
        · have hI2 : ¬ (j : Int) < (m : Int) := by omega
          go_wp2
          go_roundw
          case rel => exact ⟨k + 1, by omega, by go_num, Lib.hid (below_drewN ((HB.out.alloc (by omega) _).alloc (by simp; omega) _) _)⟩
          case measure => simp [intOf]; omega
    · have hI : ¬ (k : Int) < (ps.length : Int) := by omega
      go_wp2
      go_ret
      exact ⟨rfl, hBw⟩

end Go.Proofs.YtghhnnbbjlipcaaGreatDoor.X
set_option linter.unusedVariables false
set_option linter.unusedSimpArgs false
namespace Go.Proofs.YtghhnnbbjlipcaaGreatDoor.X
open Go.RowKit
theorem runF_kidsR : ∀ (ps : List PD) (F : List Nat) (i : Nat) (R : List Nat), runF F i ps = some R → ∀ p ∈ ps, p.kids.length ≤ F.length + ps.length
  | [], F, i, R, h, p, hp => by cases hp
  | q :: ps, F, i, R, h, p, hp => by
    simp only [runF, stepF] at h
    split at h
    · cases h
    · rename_i f hf
      split at hf
      · rename_i hfit
        injection hf with hf
        rcases List.mem_cons.1 hp with rfl | hp
        · have := hfit.1; simp only [List.length_cons]; omega
        · have := runF_kidsR ps f (i + 1) R h p hp
          rw [← hf] at this
          simp only [List.length_append, List.length_take, List.length_cons, List.length_nil] at this ⊢
          have := hfit.1
          omega
      · cases hf
theorem either_lenR {l : Bs} {ps : List PD} {offs : List Nat} (h : parseL l = .ok (ps, offs)) : ps.length ≤ 1000 ∧ (∀ p ∈ ps, p.kids.length ≤ 1000000) ∧ offs.length = ps.length := by
  rcases either_cases l with ⟨ps', offs', h1, h2, h3, ⟨r0, h4⟩, h5⟩ | ⟨f, h1, h2, h3⟩
  · rw [h] at h1
    injection h1 with h1
    injection h1 with e1 e2
    subst e1 e2
    refine ⟨h3, fun p hp => ?_, h2.symm⟩
    have := runF_kidsR ps [] 0 [r0] h4 p hp
    simp at this
    omega
  · rw [h] at h1; cases h1
theorem readR (w : World) {b : Nat} {c a : Int} (h : w.heap[b]? = some (faultObj c a)) (hc : c ≠ 0) : Calls Tryz.prog 12 #[.iface 64 (.pointer (some ⟨b, 0, none⟩))] w fun e w' => e = .returned (.agg (H.fcells c a ⟨#[]⟩)) ∧ Below w.heap.size w w' :=
  H.read_any _ (some (c, a)) w (err_is h (by simpa using hc))
theorem readN (w : World) : Calls Tryz.prog 12 #[.nilIface] w fun e w' => e = .returned (.agg (H.fcells 0 0 ⟨#[]⟩)) ∧ Below w.heap.size w w' :=
  H.read_any _ none w rfl
theorem st1x (w : World) (a : Option Addr) (n c : Nat) (x : Value) (t : TypeId) : (storeCells ⟨w.heap.size, 0, none⟩ [.slice a n c]).run Tryz.prog (w.alloc (.cells #[x] t)) = .ok () (w.alloc (.cells #[.slice a n c] t)) := by
  simp [go_sem]
theorem st1y (w : World) (o : Obj) (a : Option Addr) (n c : Nat) (x : Value) (t : TypeId) : (storeCells ⟨w.heap.size, 0, none⟩ [.slice a n c]).run Tryz.prog ((w.alloc (.cells #[x] t)).alloc o) = .ok () ((w.alloc (.cells #[.slice a n c] t)).alloc o) := by
  simp [go_sem]
theorem sc2p (w : World) (A : Obj) (a b a' b' : Int) (s s' : ByteArray) : (storeCells ⟨w.heap.size + 1, 0, none⟩ (H.flist a b s)).run Tryz.prog ((w.alloc A).alloc (.cells (H.fcells a' b' s') 35)) = .ok () ((w.alloc A).alloc (.cells (H.fcells a b s) 35)) := by
  have h := H.sc1 (w.alloc A) a b a' b' s s'
  rw [World.size_alloc] at h
  exact h
theorem ld1 {w : World} {g : Nat} {v : Value} (h : w.cell? ⟨g, 0, none⟩ = some v) : (loadCells ⟨g, 0, none⟩ 1).run Tryz.prog w = .ok #[v] w := by
  have h1 := run_loadCells_list (P := Tryz.prog) w ⟨g, 0, none⟩ [v] (fun j u hu => by
    have hadd : (⟨g, 0, none⟩ : Addr).add j = ⟨g, j, none⟩ := by unfold Addr.add; split <;> simp_all
    rw [hadd]
    match j, hu with
    | 0, hu => obtain rfl := Option.some.inj hu; exact h)
  exact h1
section
attribute [-go_sem] storeCells loadCells loadCellsFrom
attribute [local go_sem] st1x st1y sc2p
theorem treeNil (w : World) : TreeAt w 0 (.slice none 0 0) (.slice none 0 0) [] [] [] :=
  ⟨⟨rfl, .inl ⟨rfl, rfl⟩⟩, ⟨rfl, .inl ⟨rfl, rfl⟩⟩, rfl, fun i h => absurd h (Nat.not_lt_zero _), by simp [Value.ownBlock]⟩
theorem refNil (w : World) : RefAt w 0 (.slice none 0 0) (.slice none 0 0) [] [] [] :=
  ⟨⟨rfl, .inl ⟨rfl, rfl⟩⟩, ⟨rfl, .inl ⟨rfl, rfl⟩⟩, rfl, fun i h => absurd h (Nat.not_lt_zero _)⟩
set_option maxHeartbeats 4000000 in
set_option maxRecDepth 100000 in
theorem parseReads_ok (s : ByteArray) (w : World) (hs : s.size ≤ 140737488355328) (hL : LW w) (ps : List PD) (offs : List Nat) (hr : parseL s.data.toList = .ok (ps, offs)) :
    Calls Tryz.prog 3 #[.string s] w fun e w' => e = .returned (.bool true) ∧ Below w.heap.size w w' := by
  have HL := Lib.hid hL
  have PC := Lib.hid (fun W h => parse_c s W (by omega) h)
  have RC := Lib.hid (fun W => rp_any s W (by omega))
  rw [hr] at PC RC
  obtain ⟨hl1, hk, hlo⟩ := either_lenR hr
  have HK := Lib.hid hk
  have HLO := Lib.hid hlo
  clear hL hr hk hlo
  have heq := H.f_eql
  go_enter Tryz.func3, Tryz.ntmps3
  go_wp2_with fail
  refine (wakes_any _ HL.out).mono ?_
  rintro e w1 ⟨rfl, hB⟩
  have B1 := Lib.hid hB
  clear hB
  go_wp2_with fail
  refine (PC.out _ (HL.out.below B1.out)).mono ?_
  rintro e w2 ⟨hB, vp, vo, kv, rfl, hT⟩
  obtain ⟨av, rfl⟩ := hT.parts.shp
  have T2 := Lib.hid hT
  clear hT
  have B2 := Lib.hid (B1.out.trans (hB.mono B1.out.size))
  have hal : Below w2.heap.size w2 (w2.alloc (.cells #[(.slice av ps.length ps.length)] 25)) := (Below.refl _ _).alloc (Nat.le_refl _) _
  clear hB
  go_wp2_with fail
  refine (RC.out _).mono ?_
  rintro e w3 ⟨hB, vp2, vo2, kv2, rfl, hT2⟩
  obtain ⟨av2, cp2, rfl⟩ := own_shape hT2.parts
  have RT3 := Lib.hid hT2
  have T3 := Lib.hid ((T2.out.below hal).below hB)
  clear hT2
  have hc3 : w3.cell? ⟨w2.heap.size, 0, none⟩ = some (.slice av ps.length ps.length) := cell_b hB ((Lib.cell_of_heap (heap_alloc_new w2 _) _).trans rfl)
  have B3 := Lib.hid ((B2.out.trans (hal.mono B2.out.size)).trans (hB.mono (by have := B2.out.size; simp; omega)))
  have hz3 : w2.heap.size < w3.heap.size := World.block_lt_of_cell? _ _ hc3
  clear hB hal
  go_wp2_with fail
  have hal2 : Below w3.heap.size w3 ((w3.alloc (.cells #[(.slice av2 ps.length cp2)] 25)).alloc (.cells (H.fcells 0 0 ⟨#[]⟩) 35)) := ((Below.refl _ _).alloc (Nat.le_refl _) _).alloc (by simp) _
  have hd1 := cell_b hal2 hc3
  have hd2 : (((w3.alloc (.cells #[(.slice av2 ps.length cp2)] 25)).alloc (.cells (H.fcells 0 0 ⟨#[]⟩) 35))).cell? ⟨w3.heap.size, 0, none⟩ = some (.slice av2 ps.length cp2) := (Lib.cell_of_heap ((Below.heap_alloc _ _ _ (by simp)).trans (heap_alloc_new w3 _)) _).trans rfl
  have hd3 : (((w3.alloc (.cells #[(.slice av2 ps.length cp2)] 25)).alloc (.cells (H.fcells 0 0 ⟨#[]⟩) 35))).heap[w3.heap.size + 1]? = some (.cells (H.fcells 0 0 ⟨#[]⟩) 35 (0, 0)) := heap_alloc2_new w3 _ _
  have l3 : (loadCells ⟨w3.heap.size + 1, 0, none⟩ 19).run Tryz.prog ((w3.alloc (.cells #[(.slice av2 ps.length cp2)] 25)).alloc (.cells (H.fcells 0 0 ⟨#[]⟩) 35)) = .ok (H.fcells 0 0 ⟨#[]⟩) ((w3.alloc (.cells #[(.slice av2 ps.length cp2)] 25)).alloc (.cells (H.fcells 0 0 ⟨#[]⟩) 35)) := H.l_cells _ _ _ _ _ _ hd3
  have l3d : (loadCells ⟨w3.heap.size + 1, 0, none⟩ 19).run Tryz.prog (((w3.alloc (.cells #[(.slice av2 ps.length cp2)] 25)).alloc (.cells (H.fcells 0 0 ⟨#[]⟩) 35))).drew = .ok (H.fcells 0 0 ⟨#[]⟩) (((w3.alloc (.cells #[(.slice av2 ps.length cp2)] 25)).alloc (.cells (H.fcells 0 0 ⟨#[]⟩) 35))).drew := H.l_cells (((w3.alloc (.cells #[(.slice av2 ps.length cp2)] 25)).alloc (.cells (H.fcells 0 0 ⟨#[]⟩) 35))).drew _ _ _ _ _ hd3
  have D1 := Lib.hid hd1
  have D2 := Lib.hid hd2
  have D3 := Lib.hid hd3
  have B4 := Lib.hid (B3.out.trans (hal2.mono B3.out.size))
  have A2 := Lib.hid hal2
  clear hd1 hd2 hd3 hc3 hal2
  go_region_with (first
    | (go_at_call 14; go_loud (refine (sameInts_any _ _ (offs.map fun i : Nat => (i : Int)) (offs.map fun i : Nat => (i : Int)) w6 ((RowIn.ints (T3.out.below K6.out).offs)) (ints_own (by have h := (RT3.out.below K6.out).offs; rw [List.map_map]; exact h)) (by simp; have := HLO.out; omega) (by simp; have := HLO.out; omega)).mono ?_; rintro e w7 ⟨he, hB7⟩; rw [decide_eq_true rfl] at he; subst he; have B7 := Lib.hid (B6.out.trans (hB7.mono B6.out.size)); clear hB7))
    | (go_at_call 13; go_loud (refine (sameR_any hl1 (T3.out.below K5.out) (RT3.out.below K5.out) HK.out).mono ?_; rintro e w6 ⟨rfl, hB6⟩; have K6 := Lib.hid (K5.out.trans (hB6.mono K5.out.size)); have B6 := Lib.hid (B5.out.trans (hB6.mono B5.out.size)); clear hB6))
    | (go_at_call 12; go_loud (refine (readN _).mono ?_; rintro e w5 ⟨rfl, hB5⟩; have J5 : Below (((w3.alloc (.cells #[(.slice av2 ps.length cp2)] 25)).alloc (.cells (H.fcells 0 0 ⟨#[]⟩) 35))).heap.size (((w3.alloc (.cells #[(.slice av2 ps.length cp2)] 25)).alloc (.cells (H.fcells 0 0 ⟨#[]⟩) 35))) w5 := (by first | exact hB5 | exact ((Below.refl _ _).drew).trans hB5); have l5 : (loadCells ⟨w3.heap.size + 1, 0, none⟩ 19).run Tryz.prog w5 = .ok (H.fcells 0 0 ⟨#[]⟩) w5 := H.l_cells _ _ _ _ _ _ ((J5.block _ (by simp)).trans D3.out); have m1 := ld1 (cell_b J5 D1.out); have m2 := ld1 (cell_b J5 D2.out); have K5 := Lib.hid (A2.out.trans (J5.mono (by simp; omega))); have B5 := Lib.hid (B4.out.trans (J5.mono B4.out.size)); clear hB5 J5)))
  all_goals go_wp2
  all_goals go_ret
  all_goals exact ⟨rfl, B7.out⟩
set_option maxHeartbeats 4000000 in
set_option maxRecDepth 100000 in
theorem parseReads_err (s : ByteArray) (w : World) (hs : s.size ≤ 140737488355328) (hL : LW w) (f : PF) (hr : parseL s.data.toList = .error f) (hf : f.1 ≠ 0) :
    Calls Tryz.prog 3 #[.string s] w fun e w' => e = .returned (.bool true) ∧ Below w.heap.size w w' := by
  have HL := Lib.hid hL
  have PC := Lib.hid (fun W h => parse_c s W (by omega) h)
  have RC := Lib.hid (fun W => rp_any s W (by omega))
  rw [hr] at PC RC
  have HF0 := Lib.hid hf
  clear hL hr hf
  have heq := H.f_eql
  go_enter Tryz.func3, Tryz.ntmps3
  go_wp2_with fail
  refine (wakes_any _ HL.out).mono ?_
  rintro e w1 ⟨rfl, hB⟩
  have B1 := Lib.hid hB
  clear hB
  go_wp2_with fail
  refine (PC.out _ (HL.out.below B1.out)).mono ?_
  rintro e w2 ⟨hB, b, rfl, hb1, hb2⟩
  have F2 := Lib.hid hb2
  clear hb1 hb2
  have B2 := Lib.hid (B1.out.trans (hB.mono B1.out.size))
  have hal : Below w2.heap.size w2 (w2.alloc (.cells #[(.slice none 0 0)] 25)) := (Below.refl _ _).alloc (Nat.le_refl _) _
  clear hB
  go_wp2_with fail
  refine (RC.out _).mono ?_
  rintro e w3 ⟨hB, rfl⟩
  have hb2 := (Array.getElem?_eq_some_iff.1 F2.out).1
  have F3 : Hid (w3.heap[b]? = some (faultObj f.1 f.2)) := Lib.hid ((hB.block _ (by simp; omega)).trans ((Below.heap_alloc _ _ _ hb2).trans F2.out))
  have hc3 : w3.cell? ⟨w2.heap.size, 0, none⟩ = some (.slice none 0 0) := cell_b hB ((Lib.cell_of_heap (heap_alloc_new w2 _) _).trans rfl)
  have B3 := Lib.hid ((B2.out.trans (hal.mono B2.out.size)).trans (hB.mono (by have := B2.out.size; simp; omega)))
  have hz3 : w2.heap.size < w3.heap.size := World.block_lt_of_cell? _ _ hc3
  clear hB hal
  go_wp2_with fail
  have hal2 : Below w3.heap.size w3 ((w3.alloc (.cells #[(.slice none 0 0)] 25)).alloc (.cells (H.fcells f.1 (f.2 : Nat) ⟨#[]⟩) 35)) := ((Below.refl _ _).alloc (Nat.le_refl _) _).alloc (by simp) _
  have hd1 := cell_b hal2 hc3
  have hd2 : (((w3.alloc (.cells #[(.slice none 0 0)] 25)).alloc (.cells (H.fcells f.1 (f.2 : Nat) ⟨#[]⟩) 35))).cell? ⟨w3.heap.size, 0, none⟩ = some (.slice none 0 0) := (Lib.cell_of_heap ((Below.heap_alloc _ _ _ (by simp)).trans (heap_alloc_new w3 _)) _).trans rfl
  have hd3 : (((w3.alloc (.cells #[(.slice none 0 0)] 25)).alloc (.cells (H.fcells f.1 (f.2 : Nat) ⟨#[]⟩) 35))).heap[w3.heap.size + 1]? = some (.cells (H.fcells f.1 (f.2 : Nat) ⟨#[]⟩) 35 (0, 0)) := heap_alloc2_new w3 _ _
  have l3 : (loadCells ⟨w3.heap.size + 1, 0, none⟩ 19).run Tryz.prog ((w3.alloc (.cells #[(.slice none 0 0)] 25)).alloc (.cells (H.fcells f.1 (f.2 : Nat) ⟨#[]⟩) 35)) = .ok (H.fcells f.1 (f.2 : Nat) ⟨#[]⟩) ((w3.alloc (.cells #[(.slice none 0 0)] 25)).alloc (.cells (H.fcells f.1 (f.2 : Nat) ⟨#[]⟩) 35)) := H.l_cells _ _ _ _ _ _ hd3
  have l3d : (loadCells ⟨w3.heap.size + 1, 0, none⟩ 19).run Tryz.prog (((w3.alloc (.cells #[(.slice none 0 0)] 25)).alloc (.cells (H.fcells f.1 (f.2 : Nat) ⟨#[]⟩) 35))).drew = .ok (H.fcells f.1 (f.2 : Nat) ⟨#[]⟩) (((w3.alloc (.cells #[(.slice none 0 0)] 25)).alloc (.cells (H.fcells f.1 (f.2 : Nat) ⟨#[]⟩) 35))).drew := H.l_cells (((w3.alloc (.cells #[(.slice none 0 0)] 25)).alloc (.cells (H.fcells f.1 (f.2 : Nat) ⟨#[]⟩) 35))).drew _ _ _ _ _ hd3
  have hb3 := (Array.getElem?_eq_some_iff.1 F3.out).1
  have F4 : Hid ((((w3.alloc (.cells #[(.slice none 0 0)] 25)).alloc (.cells (H.fcells f.1 (f.2 : Nat) ⟨#[]⟩) 35))).heap[b]? = some (faultObj f.1 f.2)) := Lib.hid ((hal2.block _ hb3).trans F3.out)
  have F4d : Hid ((((w3.alloc (.cells #[(.slice none 0 0)] 25)).alloc (.cells (H.fcells f.1 (f.2 : Nat) ⟨#[]⟩) 35))).drew.heap[b]? = some (faultObj f.1 f.2)) := Lib.hid ((hal2.block _ hb3).trans F3.out)
  have D1 := Lib.hid hd1
  have D2 := Lib.hid hd2
  have D3 := Lib.hid hd3
  have B4 := Lib.hid (B3.out.trans (hal2.mono B3.out.size))
  have A2 := Lib.hid hal2
  clear hd1 hd2 hd3 hc3 hal2
  go_region_with (first
    | (go_at_call 14; go_loud (refine (sameInts_any _ _ [] [] w6 (.inl ⟨rfl, none, 0, rfl⟩) (.inl ⟨rfl, none, 0, rfl⟩) (by simp) (by simp)).mono ?_; rintro e w7 ⟨he, hB7⟩; rw [decide_eq_true rfl] at he; subst he; have B7 := Lib.hid (B6.out.trans (hB7.mono B6.out.size)); clear hB7))
    | (go_at_call 13; go_loud (refine (sameR_any (ps := []) (by simp) (treeNil w5) (refNil w5) (fun p hp => by cases hp)).mono ?_; rintro e w6 ⟨rfl, hB6⟩; have B6 := Lib.hid (B5.out.trans (hB6.mono B5.out.size)); clear hB6))
    | (go_at_call 12; go_loud (refine (readR _ (by first | exact F4.out | exact F4d.out) HF0.out).mono ?_; rintro e w5 ⟨rfl, hB5⟩; have J5 : Below (((w3.alloc (.cells #[(.slice none 0 0)] 25)).alloc (.cells (H.fcells f.1 (f.2 : Nat) ⟨#[]⟩) 35))).heap.size (((w3.alloc (.cells #[(.slice none 0 0)] 25)).alloc (.cells (H.fcells f.1 (f.2 : Nat) ⟨#[]⟩) 35))) w5 := (by first | exact hB5 | exact ((Below.refl _ _).drew).trans hB5); have l5 : (loadCells ⟨w3.heap.size + 1, 0, none⟩ 19).run Tryz.prog w5 = .ok (H.fcells f.1 (f.2 : Nat) ⟨#[]⟩) w5 := H.l_cells _ _ _ _ _ _ ((J5.block _ (by simp)).trans D3.out); have m1 := ld1 (cell_b J5 D1.out); have m2 := ld1 (cell_b J5 D2.out); have K5 := Lib.hid (A2.out.trans (J5.mono (by simp; omega))); have B5 := Lib.hid (B4.out.trans (J5.mono B4.out.size)); clear hB5 J5)))
  all_goals go_wp2
  all_goals go_ret
  all_goals exact ⟨rfl, B7.out⟩
end
theorem parseReads_any (s : ByteArray) (w : World) (hs : s.size ≤ 140737488355328) (hL : LW w) :
    Calls Tryz.prog 3 #[.string s] w fun e w' => e = .returned (.bool true) ∧ Below w.heap.size w w' := by
  rcases either_cases s.data.toList with ⟨ps, offs, h1, h2, h3, _, _⟩ | ⟨f, h1, h2, h3⟩
  · exact parseReads_ok s w hs hL ps offs h1
  · exact parseReads_err s w hs hL f h1 (by omega)

end Go.Proofs.YtghhnnbbjlipcaaGreatDoor.X
