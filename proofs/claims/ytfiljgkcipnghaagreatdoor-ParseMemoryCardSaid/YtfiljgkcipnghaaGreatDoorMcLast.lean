/-
  The walk of Same over a tree of the program's and one of the document's machine.
  The walk of ParseReads.
-/
import Derived.Test.YtfiljgkcipnghaaGreatDoorMcRun
import Derived.Test.YtfiljgkcipnghaaGreatDoorParSm
import Derived.Test.YtfiljgkcipnghaaGreatDoorPlAll
set_option linter.unusedVariables false
set_option linter.unusedSimpArgs false
namespace Go.Proofs.YtfiljgkcipnghaaGreatDoor.X
open Go.RowKit
theorem RefAt.below {w w' : World} {base : Nat} {vp vo : Value} {kv : List Value} {ps : List PD} {offs : List Nat} (h : RefAt w base vp vo kv ps offs) (hb : Below w.heap.size w w') : RefAt w' base vp vo kv ps offs :=
  ⟨row_below h.parts hb, row_below h.offs hb, h.klen, fun i hi => row_below (h.kids i hi) hb⟩
theorem RefAt.part {w : World} {base : Nat} {av : Option Addr} {cp : Nat} {vo : Value} {kv : List Value} {ps : List PD} {offs : List Nat} (h : RefAt w base (.slice av ps.length cp) vo kv ps offs) {k : Nat} (hk : k < ps.length) :
    ∃ g a c, Value.slice av ps.length cp = .slice (some ⟨g, 0, none⟩) ps.length cp ∧ g < w.heap.size ∧ kv.getD k undef = .slice a ps[k].kids.length c ∧ w.cell? ⟨g, k * 4, none⟩ = some (.int .i64 ps[k].kind) ∧ w.cell? ⟨g, k * 4 + 1, none⟩ = some (.string ⟨ps[k].text.toArray⟩) ∧
      w.cell? ⟨g, k * 4 + 2, none⟩ = some (.int .i64 ps[k].num) ∧ w.cell? ⟨g, k * 4 + 3, none⟩ = some (.slice a ps[k].kids.length c) ∧ IntsAt w (.slice a ps[k].kids.length c) (ps[k].kids.map fun i : Nat => (i : Int)) := by
  obtain ⟨a, c, hv⟩ := own_form (h.kids k hk)
  have hi := kid_ints (h.kids k hk)
  rw [hv] at hi
  rcases h.parts.2 with ⟨h1, h2⟩ | ⟨g, cap, cur, h1, h2, h3, h4, h5, h6, h7⟩
  · omega
  · injection h1 with h1
    have h8 : ∀ j, j < 4 → w.cell? ⟨g, k * 4 + j, none⟩ = (partCells ps[k] (kv.getD k undef))[j]? := fun j hj => by
      rw [Lib.cell_of_heap h3, ← Array.getElem?_toList]
      have e : cur.toList[k * 4 + j]? = (partRow ps kv)[k * 4 + j]? := by rw [← h7, List.getElem?_take, if_pos (by omega)]
      rw [e, partRow_at ps kv h.klen k hk j hj]
    rw [hv] at h8
    exact ⟨g, a, c, by rw [h1], (Array.getElem?_eq_some_iff.1 h3).1, hv, h8 0 (by omega), h8 1 (by omega), h8 2 (by omega), h8 3 (by omega), hi⟩
set_option maxHeartbeats 8000000 in
set_option maxRecDepth 100000 in
theorem sameR_any {ps : List PD} (hl : ps.length ≤ 1000) {vp vo vp2 vo2 : Value} {kv kv2 : List Value} {offs offs2 : List Nat} {base base2 : Nat} {w : World} (hT : TreeAt w base vp vo kv ps offs) (hT2 : RefAt w base2 vp2 vo2 kv2 ps offs2) (hk : ∀ p ∈ ps, p.kids.length ≤ 1000000) :
    Calls Tryz.prog 17 #[.agg #[vp], .agg #[vp2]] w fun e w' => e = .returned (.bool true) ∧ Below w.heap.size w w' := by
  have TR := Lib.hid hT
  have TR2 := Lib.hid hT2
  obtain ⟨av, rfl⟩ := hT.parts.shp
  obtain ⟨av2, cp2, rfl⟩ := own_shape hT2.parts
  have HK := Lib.hid hk
  clear hT hT2 hk
  go_enter Tryz.func17, Tryz.ntmps17
  go_wp2
  go_loopw [5] (fun v wr => ∃ k : Nat, k ≤ ps.length ∧ v = .int .i64 k ∧ Hid (Below (w.heap.size + 2) ((w.alloc (.cells #[.slice av ps.length ps.length] 25)).alloc (.cells #[.slice av2 ps.length cp2] 25)) wr)) (fun v _ => ps.length - (intOf v).toNat)
  case atStart => exact ⟨0, by omega, rfl, Lib.hid (Below.refl _ _)⟩
  case round =>
    obtain ⟨k, hk, rfl, HB⟩ := hrel
    have hwr : w.heap.size + 1 < wr.heap.size := by have := HB.out.size; simp at this; omega
    have ct : wr.cell? ⟨w.heap.size, 0, none⟩ = some (.slice av ps.length ps.length) := cell_keep HB.out (by omega) ((Lib.cell_of_heap ((Below.heap_alloc _ _ _ (by simp)).trans (Go.heap_alloc_new w _)) 0).trans rfl)
    have ct2 : wr.cell? ⟨w.heap.size + 1, 0, none⟩ = some (.slice av2 ps.length cp2) := cell_keep HB.out (by omega) ((Lib.cell_of_heap (by have h := Go.heap_alloc_new (w.alloc (.cells #[.slice av ps.length ps.length] 25)) (.cells #[.slice av2 ps.length cp2] 25); rw [World.size_alloc] at h; exact h) 0).trans rfl)
    have hBw : Below w.heap.size w wr := (((Below.refl _ w).alloc (Nat.le_refl _) _).alloc (by simp) _).trans (HB.out.mono (by omega))
    have hw0 : w.heap.size < wr.heap.size := by omega
    by_cases hlt : k < ps.length
    · have hI : (k : Int) < (ps.length : Int) := by omega
      obtain ⟨g, a, c, hg1, hg2, hkv, d0, d1, d2, d3, hIn⟩ := TR.out.part hlt
      obtain ⟨g2, a2, c2, hg3, hg4, hkv2, e0, e1, e2, e3, hIn2⟩ := TR2.out.part hlt
      have hg1' : av = some ⟨g, 0, none⟩ := (by injection hg1)
      have hg3' : av2 = some ⟨g2, 0, none⟩ := (by injection hg3)
      clear hg1 hg3
      subst hg1' hg3'
      have d0 := cell_keep hBw hg2 d0
      have d1 := cell_keep hBw hg2 d1
      have d2 := cell_keep hBw hg2 d2
      have d3 := cell_keep hBw hg2 d3
      have e0 := cell_keep hBw hg4 e0
      have e1 := cell_keep hBw hg4 e1
      have e2 := cell_keep hBw hg4 e2
      have e3 := cell_keep hBw hg4 e3
      have KI := Lib.hid (hIn.below hBw)
      have KI2 := Lib.hid (hIn2.below hBw)
      have hkl := HK.out _ (List.getElem_mem hlt)
      have hgr : g < wr.heap.size := Nat.lt_of_lt_of_le hg2 hBw.size
      have hgr2 : g2 < wr.heap.size := Nat.lt_of_lt_of_le hg4 hBw.size
      have HBw := Lib.hid hBw
      clear hIn hIn2 hkv hkv2 hBw
      generalize ps[k] = p at d0 d1 d2 d3 e0 e1 e2 e3 KI KI2 hkl
      obtain ⟨m, hm⟩ : ∃ m, m = p.kids.length := ⟨_, rfl⟩
      have HM := Lib.hid hm
      rw [← hm] at d3 e3 KI KI2 hkl
      clear hm
      go_wp2
      go_loopw [8] (fun v wq => ∃ j : Nat, j ≤ m ∧ v = .int .i64 j ∧ ∃ nd, ((wr.alloc (.cells #[.int .i64 p.kind, .string ⟨p.text.toArray⟩, .int .i64 p.num, .slice a m c] 49)).alloc (.cells #[.int .i64 p.kind, .string ⟨p.text.toArray⟩, .int .i64 p.num, .slice a2 m c2] 49)).drewN nd = wq) (fun v _ => m - (intOf v).toNat)
      case atStart => exact ⟨0, by omega, rfl, 0, World.drewN_zero _⟩
      case round =>
        obtain ⟨j, hj, rfl, nd, rfl⟩ := hrel
        by_cases hlj : j < m
        · have hI2 : (j : Int) < (m : Int) := by omega
          obtain ⟨gk, ok, hk1, hk2, hk3⟩ := ints_cell KI.out (j := j) (by rw [List.length_map]; have := HM.out; omega)
          obtain ⟨gk2, ok2, hk4, hk5, hk6⟩ := ints_cell KI2.out (j := j) (by rw [List.length_map]; have := HM.out; omega)
          subst hk1 hk4
          generalize (p.kids.map fun i : Nat => (i : Int))[j]'(by rw [List.length_map]; have := HM.out; omega) = x at hk3 hk6
          go_wp2
          go_quiet (fail)
          go_wp2
          go_roundw
          case rel => exact ⟨j + 1, by omega, by go_num, _, rfl⟩
          case measure => simp [intOf]; omega
        · have hI2 : ¬ (j : Int) < (m : Int) := by omega
          go_wp2
          go_roundw
          case rel => exact ⟨k + 1, by omega, by go_num, Lib.hid (below_drewN ((HB.out.alloc (by omega) _).alloc (by simp; omega) _) _)⟩
          case measure => simp [intOf]; omega
    · have hI : ¬ (k : Int) < (ps.length : Int) := by omega
      go_wp2
      go_ret
      exact ⟨rfl, hBw⟩

end Go.Proofs.YtfiljgkcipnghaaGreatDoor.X
set_option linter.unusedVariables false
set_option linter.unusedSimpArgs false
namespace Go.Proofs.YtfiljgkcipnghaaGreatDoor.X
open Go.RowKit
theorem runF_kidsR : ∀ (ps : List PD) (F : List Nat) (i : Nat) (R : List Nat), runF F i ps = some R → ∀ p ∈ ps, p.kids.length ≤ F.length + ps.length
  | [], F, i, R, h, p, hp => by cases hp
  | q :: ps, F, i, R, h, p, hp => by
    simp only [runF, stepF] at h
    split at h
    · cases h
    · rename_i f hf
      split at hf
      · rename_i hfit
        injection hf with hf
        rcases List.mem_cons.1 hp with rfl | hp
        · have := hfit.1; simp only [List.length_cons]; omega
        · have := runF_kidsR ps f (i + 1) R h p hp
          rw [← hf] at this
          simp only [List.length_append, List.length_take, List.length_cons, List.length_nil] at this ⊢
          have := hfit.1
          omega
      · cases hf
theorem either_lenR {l : Bs} {ps : List PD} {offs : List Nat} (h : parseL l = .ok (ps, offs)) : ps.length ≤ 1000 ∧ (∀ p ∈ ps, p.kids.length ≤ 1000000) ∧ offs.length = ps.length := by
  rcases either_cases l with ⟨ps', offs', h1, h2, h3, ⟨r0, h4⟩, h5⟩ | ⟨f, h1, h2, h3⟩
  · rw [h] at h1
    injection h1 with h1
    injection h1 with e1 e2
    subst e1 e2
    refine ⟨h3, fun p hp => ?_, h2.symm⟩
    have := runF_kidsR ps [] 0 [r0] h4 p hp
    simp at this
    omega
  · rw [h] at h1; cases h1
theorem st1x (w : World) (a : Option Addr) (n c : Nat) (x : Value) (t : TypeId) : (storeCells ⟨w.heap.size, 0, none⟩ [.slice a n c]).run Tryz.prog (w.alloc (.cells #[x] t)) = .ok () (w.alloc (.cells #[.slice a n c] t)) := by
  simp [go_sem]
theorem st1y (w : World) (o : Obj) (a : Option Addr) (n c : Nat) (x : Value) (t : TypeId) : (storeCells ⟨w.heap.size, 0, none⟩ [.slice a n c]).run Tryz.prog ((w.alloc (.cells #[x] t)).alloc o) = .ok () ((w.alloc (.cells #[.slice a n c] t)).alloc o) := by
  simp [go_sem]
theorem sc2p (w : World) (A : Obj) (a b a' b' : Int) (s s' : ByteArray) : (storeCells ⟨w.heap.size + 1, 0, none⟩ (H.flist a b s)).run Tryz.prog ((w.alloc A).alloc (.cells (H.fcells a' b' s') 35)) = .ok () ((w.alloc A).alloc (.cells (H.fcells a b s) 35)) := by
  have h := H.sc1 (w.alloc A) a b a' b' s s'
  rw [World.size_alloc] at h
  exact h
section
attribute [-go_sem] storeCells loadCells loadCellsFrom
attribute [local go_sem] st1x st1y sc2p
end

end Go.Proofs.YtfiljgkcipnghaaGreatDoor.X
