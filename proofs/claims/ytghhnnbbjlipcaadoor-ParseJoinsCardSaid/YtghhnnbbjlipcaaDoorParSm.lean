/-
  The walk of Same: two trees of the same parts.
-/
import Derived.Test.YtghhnnbbjlipcaaDoorParForm
set_option linter.unusedVariables false
set_option linter.unusedSimpArgs false
namespace Go.Proofs.YtghhnnbbjlipcaaDoor.X
open Go.RowKit
theorem ints_cell {w : World} {a : Option Addr} {n c : Nat} {xs : List Int} (h : IntsAt w (.slice a n c) xs) {j : Nat} (hj : j < xs.length) : ∃ g o, a = some ⟨g, o, none⟩ ∧ g < w.heap.size ∧ w.cell? ⟨g, o + j, none⟩ = some (.int .i64 xs[j]) := by
  rcases h with ⟨rfl, _⟩ | ⟨g, o, cap, h1, h2, h3⟩
  · simp at hj
  · exact ⟨g, o, by injection h1, h2, h3 j hj⟩
set_option maxHeartbeats 8000000 in
set_option maxRecDepth 100000 in
theorem sameTree_any {ps : List PD} (hl : ps.length ≤ 1000) {vp vo vp2 vo2 : Value} {kv kv2 : List Value} {offs offs2 : List Nat} {base base2 : Nat} {w : World} (hT : TreeAt w base vp vo kv ps offs) (hT2 : TreeAt w base2 vp2 vo2 kv2 ps offs2) (hk : ∀ p ∈ ps, p.kids.length ≤ 1000000) :
    Calls Tryd.prog 14 #[.agg #[vp], .agg #[vp2]] w fun e w' => e = .returned (.bool true) ∧ Below w.heap.size w w' := by
  have TR := Lib.hid hT
  have TR2 := Lib.hid hT2
  obtain ⟨av, rfl⟩ := hT.parts.shp
  obtain ⟨av2, rfl⟩ := hT2.parts.shp
  have HK := Lib.hid hk
  clear hT hT2 hk
  go_enter Tryd.func14, Tryd.ntmps14
  go_wp2
  go_loopw [5] (fun v wr => ∃ k : Nat, k ≤ ps.length ∧ v = .int .i64 k ∧ Hid (Below (w.heap.size + 2) ((w.alloc (.cells #[.slice av ps.length ps.length] 25)).alloc (.cells #[.slice av2 ps.length ps.length] 25)) wr)) (fun v _ => ps.length - (intOf v).toNat)
  case atStart => exact ⟨0, by omega, rfl, Lib.hid (Below.refl _ _)⟩
  case round =>
    obtain ⟨k, hk, rfl, HB⟩ := hrel
    have hwr : w.heap.size + 1 < wr.heap.size := by have := HB.out.size; simp at this; omega
    have ct : wr.cell? ⟨w.heap.size, 0, none⟩ = some (.slice av ps.length ps.length) := cell_keep HB.out (by omega) ((Lib.cell_of_heap ((Below.heap_alloc _ _ _ (by simp)).trans (Go.heap_alloc_new w _)) 0).trans rfl)
    have ct2 : wr.cell? ⟨w.heap.size + 1, 0, none⟩ = some (.slice av2 ps.length ps.length) := cell_keep HB.out (by omega) ((Lib.cell_of_heap (by have h := Go.heap_alloc_new (w.alloc (.cells #[.slice av ps.length ps.length] 25)) (.cells #[.slice av2 ps.length ps.length] 25); rw [World.size_alloc] at h; exact h) 0).trans rfl)
    have hBw : Below w.heap.size w wr := (((Below.refl _ w).alloc (Nat.le_refl _) _).alloc (by simp) _).trans (HB.out.mono (by omega))
    have hw0 : w.heap.size < wr.heap.size := by omega
    by_cases hlt : k < ps.length
    · have hI : (k : Int) < (ps.length : Int) := by omega
      obtain ⟨g, a, c, hg1, hg2, hkv, d0, d1, d2, d3, hIn⟩ := TR.out.part hlt
      obtain ⟨g2, a2, c2, hg3, hg4, hkv2, e0, e1, e2, e3, hIn2⟩ := TR2.out.part hlt
      have hg1' : av = some ⟨g, 0, none⟩ := (by injection hg1)
      have hg3' : av2 = some ⟨g2, 0, none⟩ := (by injection hg3)
      clear hg1 hg3
      subst hg1' hg3'
      have d0 := cell_keep hBw hg2 d0
      have d1 := cell_keep hBw hg2 d1
      have d2 := cell_keep hBw hg2 d2
      have d3 := cell_keep hBw hg2 d3
      have e0 := cell_keep hBw hg4 e0
      have e1 := cell_keep hBw hg4 e1
      have e2 := cell_keep hBw hg4 e2
      have e3 := cell_keep hBw hg4 e3
      have KI := Lib.hid (hIn.below hBw)
      have KI2 := Lib.hid (hIn2.below hBw)
      have hkl := HK.out _ (List.getElem_mem hlt)
      have hgr : g < wr.heap.size := Nat.lt_of_lt_of_le hg2 hBw.size
      have hgr2 : g2 < wr.heap.size := Nat.lt_of_lt_of_le hg4 hBw.size
      have HBw := Lib.hid hBw
      clear hIn hIn2 hkv hkv2 hBw
      generalize ps[k] = p at d0 d1 d2 d3 e0 e1 e2 e3 KI KI2 hkl
      obtain ⟨m, hm⟩ : ∃ m, m = p.kids.length := ⟨_, rfl⟩
      have HM := Lib.hid hm
      rw [← hm] at d3 e3 KI KI2 hkl
      clear hm
      go_wp2
      go_loopw [8] (fun v wq => ∃ j : Nat, j ≤ m ∧ v = .int .i64 j ∧ ∃ nd, ((wr.alloc (.cells #[.int .i64 p.kind, .string ⟨p.text.toArray⟩, .int .i64 p.num, .slice a m c] 41)).alloc (.cells #[.int .i64 p.kind, .string ⟨p.text.toArray⟩, .int .i64 p.num, .slice a2 m c2] 41)).drewN nd = wq) (fun v _ => m - (intOf v).toNat)
      case atStart => exact ⟨0, by omega, rfl, 0, World.drewN_zero _⟩
      case round =>
        obtain ⟨j, hj, rfl, nd, rfl⟩ := hrel
        by_cases hlj : j < m
        · have hI2 : (j : Int) < (m : Int) := by omega
          obtain ⟨gk, ok, hk1, hk2, hk3⟩ := ints_cell KI.out (j := j) (by rw [List.length_map]; have := HM.out; omega)
          obtain ⟨gk2, ok2, hk4, hk5, hk6⟩ := ints_cell KI2.out (j := j) (by rw [List.length_map]; have := HM.out; omega)
          subst hk1 hk4
          generalize (p.kids.map fun i : Nat => (i : Int))[j]'(by rw [List.length_map]; have := HM.out; omega) = x at hk3 hk6
          go_wp2
          go_quiet (fail)
          go_wp2
          go_roundw
          case rel => exact ⟨j + 1, by omega, by go_num, _, rfl⟩
          case measure => simp [intOf]; omega
        · have hI2 : ¬ (j : Int) < (m : Int) := by omega
          go_wp2
          go_roundw
          case rel => exact ⟨k + 1, by omega, by go_num, Lib.hid (below_drewN ((HB.out.alloc (by omega) _).alloc (by simp; omega) _) _)⟩
          case measure => simp [intOf]; omega
    · have hI : ¬ (k : Int) < (ps.length : Int) := by omega
      go_wp2
      go_ret
      exact ⟨rfl, hBw⟩

end Go.Proofs.YtghhnnbbjlipcaaDoor.X
