import Derived.Test.YtghhnnbbjlipcaaGreatDoorKCopy
-- Taken by a program of this session (pick.py) out of what print.sh printed for this seat.
namespace Go.Proofs.YtghhnnbbjlipcaaGreatDoor.P
open Go.RowKit Go.Proofs.YtghhnnbbjlipcaaGreatDoorW.PrintWords Go.Proofs.YtghhnnbbjlipcaaGreatDoorW.PrintLast Go.Proofs.YtghhnnbbjlipcaaGreatDoorW.PrintMore
attribute [local go_sem] max2_int min2_int max_two min_two max_three min_three max_four min_four
set_option linter.unusedVariables false
set_option linter.unusedSimpArgs false

/-! ### show_nests: function 41 -/
mutual
def show_nests.l0 : Nat → List (S45) → List Int → Int → Option (List Int)
  | 0, _, _, _ => none
  | k + 1, x0, x3, x4 => if x4 ≥ 0 then (if 0 ≤ x4 then (if x4 < (x0.length : Int) then (if x4 < (x3.length : Int) then (if ((rd_T45 x0 x4).f0) = 3 then (show_nests.j1 k x0 x3 x4 (wrap64 ((rd x3 x4) + 1)) ((rd_T45 x0 x4).f0) ((rd_T45 x0 x4).f1) ((rd_T45 x0 x4).f2) ((rd_T45 x0 x4).f3)) else (if ((rd_T45 x0 x4).f0) = 8 then (show_nests.j1 k x0 x3 x4 (wrap64 ((rd x3 x4) + 1)) ((rd_T45 x0 x4).f0) ((rd_T45 x0 x4).f1) ((rd_T45 x0 x4).f2) ((rd_T45 x0 x4).f3)) else (if ((rd_T45 x0 x4).f0) = 9 then (show_nests.j1 k x0 x3 x4 (wrap64 ((rd x3 x4) + 1)) ((rd_T45 x0 x4).f0) ((rd_T45 x0 x4).f1) ((rd_T45 x0 x4).f2) ((rd_T45 x0 x4).f3)) else (if ((rd_T45 x0 x4).f0) = 20 then (show_nests.j1 k x0 x3 x4 (wrap64 ((rd x3 x4) + 1)) ((rd_T45 x0 x4).f0) ((rd_T45 x0 x4).f1) ((rd_T45 x0 x4).f2) ((rd_T45 x0 x4).f3)) else (if ((rd_T45 x0 x4).f0) = 19 then (show_nests.j1 k x0 x3 x4 (wrap64 ((rd x3 x4) + 1)) ((rd_T45 x0 x4).f0) ((rd_T45 x0 x4).f1) ((rd_T45 x0 x4).f2) ((rd_T45 x0 x4).f3)) else (show_nests.j1 k x0 x3 x4 (rd x3 x4) ((rd_T45 x0 x4).f0) ((rd_T45 x0 x4).f1) ((rd_T45 x0 x4).f2) ((rd_T45 x0 x4).f3))))))) else (none)) else (none)) else (none)) else (some x3)
def show_nests.j1 : Nat → List (S45) → List Int → Int → Int → Int → ByteArray → Int → List Int → Option (List Int)
  | 0, _, _, _, _, _, _, _, _ => none
  | k + 1, x0, x3, x4, x6, x120000, x120001, x120002, x120003 => show_nests.l1 k x0 x3 x4 x6 x120003 (x120003.length : Int) 0 x120000 x120001 x120002 x120003
def show_nests.l1 : Nat → List (S45) → List Int → Int → Int → List Int → Int → Int → Int → ByteArray → Int → List Int → Option (List Int)
  | 0, _, _, _, _, _, _, _, _, _, _, _ => none
  | k + 1, x0, x3, x4, x6, x38, x39, x40, x120000, x120001, x120002, x120003 => if x40 < x39 then (if 0 ≤ x40 then (if x40 < (x38.length : Int) then (if 0 ≤ (rd x38 x40) then (if (rd x38 x40) < (x3.length : Int) then ((some (x3.set ((rd x38 x40) : Int).toNat x6 : List Int)).bind fun y122 => (if (rd x38 x40) < (x0.length : Int) then ((show_bracketed.f k x120000 ((rd_T45 x0 (rd x38 x40)).f0)).bind fun t124 => (if t124 = true then (show_nests.l1 k x0 (y122.set ((rd x38 x40) : Int).toNat (wrap64 ((rd y122 (rd x38 x40)) + 1))) x4 x6 x38 x39 (wrap64 (x40 + 1)) x120000 x120001 x120002 x120003) else (show_nests.l1 k x0 y122 x4 x6 x38 x39 (wrap64 (x40 + 1)) x120000 x120001 x120002 x120003))) else (none))) else (none)) else (none)) else (none)) else (none)) else (show_nests.l0 k x0 x3 (wrap64 (x4 - 1)))
end
def show_nests.f (k : Nat) (l0 : List (S45)) : Option (List Int) := if 0 ≤ (l0.length : Int) then (if ((l0.length : Int) : Int).toNat ≤ 35184372088832 then (show_nests.l0 k l0 (List.replicate ((l0.length : Int) : Int).toNat 0) (wrap64 ((l0.length : Int) - 1))) else (none)) else (none)
theorem show_nests.mono_l : ∀ k, (∀ y0 y1 y2, LeO (show_nests.l0 k y0 y1 y2) (show_nests.l0 (k + 1) y0 y1 y2)) ∧ (∀ y0 y1 y2 y3 y4 y5 y6 y7, LeO (show_nests.j1 k y0 y1 y2 y3 y4 y5 y6 y7) (show_nests.j1 (k + 1) y0 y1 y2 y3 y4 y5 y6 y7)) ∧ (∀ y0 y1 y2 y3 y4 y5 y6 y7 y8 y9 y10, LeO (show_nests.l1 k y0 y1 y2 y3 y4 y5 y6 y7 y8 y9 y10) (show_nests.l1 (k + 1) y0 y1 y2 y3 y4 y5 y6 y7 y8 y9 y10))
  | 0 => ⟨fun _ _ _ r h => by simp [show_nests.l0] at h, fun _ _ _ _ _ _ _ _ r h => by simp [show_nests.j1] at h, fun _ _ _ _ _ _ _ _ _ _ _ r h => by simp [show_nests.l1] at h⟩
  | k + 1 => by
    obtain ⟨ih0, ih1, ih2⟩ := show_nests.mono_l k
    refine ⟨?_, ?_, ?_⟩
    · intro y0 y1 y2
      unfold show_nests.l0
      repeat' first
      | (with_reducible exact ih0 _ _ _)
      | (with_reducible exact ih1 _ _ _ _ _ _ _ _)
      | (with_reducible exact ih2 _ _ _ _ _ _ _ _ _ _ _)
      | (with_reducible exact show_bracketed.mono _ _ _)
      | (with_reducible exact LeO.refl _)
      | (with_reducible exact LeO.none _)
      | (with_reducible refine LeO.ite ?_ ?_)
      | (with_reducible refine LeO.bind ?_ (fun _ => ?_))
      | exact ih0 _ _ _
      | exact ih1 _ _ _ _ _ _ _ _
      | exact ih2 _ _ _ _ _ _ _ _ _ _ _
      | exact show_bracketed.mono _ _ _
      | exact LeO.none _
      | refine LeO.ite ?_ ?_
      | refine LeO.bind ?_ (fun _ => ?_)
    · intro y0 y1 y2 y3 y4 y5 y6 y7
      unfold show_nests.j1
      repeat' first
      | (with_reducible exact ih0 _ _ _)
      | (with_reducible exact ih1 _ _ _ _ _ _ _ _)
      | (with_reducible exact ih2 _ _ _ _ _ _ _ _ _ _ _)
      | (with_reducible exact show_bracketed.mono _ _ _)
      | (with_reducible exact LeO.refl _)
      | (with_reducible exact LeO.none _)
      | (with_reducible refine LeO.ite ?_ ?_)
      | (with_reducible refine LeO.bind ?_ (fun _ => ?_))
      | exact ih0 _ _ _
      | exact ih1 _ _ _ _ _ _ _ _
      | exact ih2 _ _ _ _ _ _ _ _ _ _ _
      | exact show_bracketed.mono _ _ _
      | exact LeO.none _
      | refine LeO.ite ?_ ?_
      | refine LeO.bind ?_ (fun _ => ?_)
    · intro y0 y1 y2 y3 y4 y5 y6 y7 y8 y9 y10
      unfold show_nests.l1
      repeat' first
      | (with_reducible exact ih0 _ _ _)
      | (with_reducible exact ih1 _ _ _ _ _ _ _ _)
      | (with_reducible exact ih2 _ _ _ _ _ _ _ _ _ _ _)
      | (with_reducible exact show_bracketed.mono _ _ _)
      | (with_reducible exact LeO.refl _)
      | (with_reducible exact LeO.none _)
      | (with_reducible refine LeO.ite ?_ ?_)
      | (with_reducible refine LeO.bind ?_ (fun _ => ?_))
      | exact ih0 _ _ _
      | exact ih1 _ _ _ _ _ _ _ _
      | exact ih2 _ _ _ _ _ _ _ _ _ _ _
      | exact show_bracketed.mono _ _ _
      | exact LeO.none _
      | refine LeO.ite ?_ ?_
      | refine LeO.bind ?_ (fun _ => ?_)
theorem show_nests.mono : ∀ a0 k, LeO (show_nests.f k a0) (show_nests.f (k + 1) a0) := by
  intro a0 k
  obtain ⟨ih0, ih1, ih2⟩ := show_nests.mono_l k
  unfold show_nests.f
  repeat' first
      | (with_reducible exact ih0 _ _ _)
      | (with_reducible exact ih1 _ _ _ _ _ _ _ _)
      | (with_reducible exact ih2 _ _ _ _ _ _ _ _ _ _ _)
      | (with_reducible exact show_bracketed.mono _ _ _)
      | (with_reducible exact LeO.refl _)
      | (with_reducible exact LeO.none _)
      | (with_reducible refine LeO.ite ?_ ?_)
      | (with_reducible refine LeO.bind ?_ (fun _ => ?_))
      | exact ih0 _ _ _
      | exact ih1 _ _ _ _ _ _ _ _
      | exact ih2 _ _ _ _ _ _ _ _ _ _ _
      | exact show_bracketed.mono _ _ _
      | exact LeO.none _
      | refine LeO.ite ?_ ?_
      | refine LeO.bind ?_ (fun _ => ?_)
set_option maxHeartbeats 8000000 in
set_option maxRecDepth 100000 in
theorem show_nests.calls (k : Nat) (A0 : Option Addr) (c0 : Nat) (l0 : List (S45)) (r : List Int) (w : World) (hr0 : Kd.C k45 w A0 l0.length l0) (hc0 : l0.length ≤ c0) (h : show_nests.f k l0 = some r) :
    Calls Tryz.prog 41 #[.slice A0 l0.length c0] w fun e w' => ∃ v0_ : Value, e = .returned (v0_) ∧ Kd.R (Kd.int .i64) 3 w' w.heap.size (fun _ => True) v0_ r ∧ Below w.heap.size w w' := by
  have hu45 := Tryz.underlying45
  have HR0 := Aside0.mk hr0
  have HC0 := Aside0.mk hc0
  clear hr0 hc0
  have HB := Aside0.mk (Below.refl w.heap.size w)
  have H : (if 0 ≤ (l0.length : Int) then (if ((l0.length : Int) : Int).toNat ≤ 35184372088832 then (show_nests.l0 k l0 (List.replicate ((l0.length : Int) : Int).toNat 0) (wrap64 ((l0.length : Int) - 1))) else (none)) else (none)) = some r := h
  clear h
  by_cases c2 : 0 ≤ (l0.length : Int)
  · rw [if_pos c2] at H
    have c2b0 := eq_true c2
    have c2b1 : decide (0 ≤ (l0.length : Int)) = true := decide_eq_true c2
    clear c2
    by_cases c3 : ((l0.length : Int) : Int).toNat ≤ 35184372088832
    · rw [if_pos c3] at H
      have c3b0 := eq_true c3
      have c3b1 : decide (((l0.length : Int) : Int).toNat ≤ 35184372088832) = true := decide_eq_true c3
      clear c3
      obtain ⟨y115, hy115⟩ : ∃ y_ : List Int, y_ = (List.replicate ((l0.length : Int) : Int).toNat 0) := ⟨_, rfl⟩
      replace H : (show_nests.l0 k l0 y115 (wrap64 ((l0.length : Int) - 1))) = some r := by first | (rw [hy115]; with_reducible exact H) | (have H2_ := (Option.bind_some _ _).symm.trans H; rw [hy115]; with_reducible exact H2_) | (have H2_ := (Option.bind_some _ _).symm.trans H; with_reducible exact H2_) | with_reducible exact H | (rw [hy115]; exact H) | exact H
      have Ny115 := Aside0.mk hy115
      clear hy115
      have H' := Aside0.mk H
      clear H
      go_enter Tryz.func41, Tryz.ntmps41
      go_wp2_with (first | ((with_reducible refine gate_dst (N := 11) rfl ?_); refine Kd.R_make (Kd.int .i64) _ 3 rfl (N := 11) rfl 26 _ _ rfl (l0.length : Int) rfl rfl Tryz.underlying26 (.int .i64 0) 8 info3 rfl (by decide) (by omega) 0 (ok := fun _ => True) (okp := fun _ => True) rfl (fun _ hk => hk) trivial (of_decide_eq_true (by first | (with_reducible assumption) | assumption)) (Nat.le_trans (Nat.mul_le_mul_right _ (of_decide_eq_true (by first | (with_reducible assumption) | assumption) : (l0.length : Int).toNat ≤ 35184372088832)) (by omega)) (Below.refl _ _) (Nat.le_refl _) ?_; intro v116 w4 ho5 hb hg_ hnew_; clear hg_ hnew_; (first | rw [← Ny115.out] at ho5 | (simp only [Int.reduceToNat] at ho5; rw [← Ny115.out] at ho5)); have n0_ := Aside0.mk (Kd.R_lower ho5 (below_size (by repeat (first | (with_reducible first | exact HB.out | apply below_alloc | apply pw_below_drewN | apply below_drew1) | exact HB.out)))); have n1_ := Aside0.mk (below_step (by repeat (first | (with_reducible first | exact HB.out | apply below_alloc | apply pw_below_drewN | apply below_drew1) | exact HB.out)) hb); clear HB; have HO117 := n0_; have HB := n1_; clear n0_ n1_; clear hb ho5))
      repeat (go_quiet (first | ((with_reducible refine gate_dst (N := 11) rfl ?_); refine Kd.R_make (Kd.int .i64) _ 3 rfl (N := 11) rfl 26 _ _ rfl (l0.length : Int) rfl rfl Tryz.underlying26 (.int .i64 0) 8 info3 rfl (by decide) (by omega) 0 (ok := fun _ => True) (okp := fun _ => True) rfl (fun _ hk => hk) trivial (of_decide_eq_true (by first | (with_reducible assumption) | assumption)) (Nat.le_trans (Nat.mul_le_mul_right _ (of_decide_eq_true (by first | (with_reducible assumption) | assumption) : (l0.length : Int).toNat ≤ 35184372088832)) (by omega)) (Below.refl _ _) (Nat.le_refl _) ?_; intro v116 w4 ho5 hb hg_ hnew_; clear hg_ hnew_; (first | rw [← Ny115.out] at ho5 | (simp only [Int.reduceToNat] at ho5; rw [← Ny115.out] at ho5)); have n0_ := Aside0.mk (Kd.R_lower ho5 (below_size (by repeat (first | (with_reducible first | exact HB.out | apply below_alloc | apply pw_below_drewN | apply below_drew1) | exact HB.out)))); have n1_ := Aside0.mk (below_step (by repeat (first | (with_reducible first | exact HB.out | apply below_alloc | apply pw_below_drewN | apply below_drew1) | exact HB.out)) hb); clear HB; have HO117 := n0_; have HB := n1_; clear n0_ n1_; clear hb ho5)); try go_wp2_with (first | ((with_reducible refine gate_dst (N := 11) rfl ?_); refine Kd.R_make (Kd.int .i64) _ 3 rfl (N := 11) rfl 26 _ _ rfl (l0.length : Int) rfl rfl Tryz.underlying26 (.int .i64 0) 8 info3 rfl (by decide) (by omega) 0 (ok := fun _ => True) (okp := fun _ => True) rfl (fun _ hk => hk) trivial (of_decide_eq_true (by first | (with_reducible assumption) | assumption)) (Nat.le_trans (Nat.mul_le_mul_right _ (of_decide_eq_true (by first | (with_reducible assumption) | assumption) : (l0.length : Int).toNat ≤ 35184372088832)) (by omega)) (Below.refl _ _) (Nat.le_refl _) ?_; intro v116 w4 ho5 hb hg_ hnew_; clear hg_ hnew_; (first | rw [← Ny115.out] at ho5 | (simp only [Int.reduceToNat] at ho5; rw [← Ny115.out] at ho5)); have n0_ := Aside0.mk (Kd.R_lower ho5 (below_size (by repeat (first | (with_reducible first | exact HB.out | apply below_alloc | apply pw_below_drewN | apply below_drew1) | exact HB.out)))); have n1_ := Aside0.mk (below_step (by repeat (first | (with_reducible first | exact HB.out | apply below_alloc | apply pw_below_drewN | apply below_drew1) | exact HB.out)) hb); clear HB; have HO117 := n0_; have HB := n1_; clear n0_ n1_; clear hb ho5)))
      go_loopg [4] k (fun kq v4 w' => ∃ (x3_1 : List Int) (x4_1 : Int), v4 = .int .i64 x4_1 ∧ Aside0 (show_nests.l0 kq l0 x3_1 x4_1 = some r) ∧ Aside0 (kq ≤ k) ∧ Aside0 (Kd.R (Kd.int .i64) 3 w' w.heap.size (fun _ => True) v116 x3_1) ∧ Aside0 (Below w.heap.size w w'))
      case atStart => exact ⟨(y115), (wrap64 ((l0.length : Int) - 1)), (by first | rfl | (simp; done) | (simp [*]; done)), H', ⟨Nat.le_refl _⟩, ⟨by (with_reducible repeat (first | apply Kd.R_alloc | apply Kd.R_drewN | apply Kd.R_drew)); exact HO117.out⟩, ⟨by repeat (first | (with_reducible first | exact HB.out | apply below_alloc | apply pw_below_drewN | apply below_drew1) | exact HB.out)⟩⟩
      case round =>
        clear H'
        try clear c2
        try clear c2b0
        try clear c2b1
        try clear p2
        try clear c3
        try clear c3b0
        try clear c3b1
        try clear c4
        obtain ⟨x3_1, x4_1, rfl, HA, HK1, HO_3, HB⟩ := hrel
        cases gk with
        | zero => exact absurd HA.out (by simp [show_nests.l0])
        | succ k1 =>
          have H := HA.out
          clear HA
          simp only [show_nests.l0] at H
          by_cases c6 : x4_1 ≥ 0
          · rw [if_pos c6] at H
            have c6b0 : decide (0 ≤ x4_1) = true := decide_eq_true c6
            clear c6
            by_cases c7 : 0 ≤ x4_1
            · rw [if_pos c7] at H
              have c7b0 : decide (0 ≤ x4_1) = true := decide_eq_true c7
              clear c7
              by_cases c8 : x4_1 < (l0.length : Int)
              · rw [if_pos c8] at H
                have c8b0 : decide (x4_1 < (l0.length : Int)) = true := decide_eq_true c8
                clear c8
                by_cases c9 : x4_1 < (x3_1.length : Int)
                · rw [if_pos c9] at H
                  have c9b0 : decide (x4_1 < (x3_1.length : Int)) = true := decide_eq_true c9
                  clear c9
                  have HC10 := Aside0.mk H
                  clear H
                  have p118 : 0 ≤ (x4_1 : Int) := of_decide_eq_true (by first | (with_reducible assumption) | assumption)
                  have q118 : x4_1 < (l0.length : Int) := of_decide_eq_true (by first | (with_reducible assumption) | assumption)
                  obtain ⟨ad118, A118_3, c118_3, e118, hx118_0, hx118_1, hx118_2, hx118_3, hl118_3, hi118_3⟩ := at_T45 HR0.out x4_1 p118 q118
                  cases e118
                  replace hx118_0 := (HB.out.cell (World.block_lt_of_cell? w _ hx118_0)).trans hx118_0
                  replace hx118_1 := (HB.out.cell (World.block_lt_of_cell? w _ hx118_1)).trans hx118_1
                  replace hx118_2 := (HB.out.cell (World.block_lt_of_cell? w _ hx118_2)).trans hx118_2
                  replace hx118_3 := (HB.out.cell (World.block_lt_of_cell? w _ hx118_3)).trans hx118_3
                  have HR118_3 := Aside0.mk hi118_3
                  have HC118_3 := Aside0.mk hl118_3
                  clear hi118_3 hl118_3
                  replace p118 := eq_true p118
                  replace q118 := eq_true q118
                  go_upto_block 2 with (first | ((with_reducible refine gate_dst (N := 5) rfl ?_); refine box_event ?hg (N := 5) ?hd (cs := #[.int .i64 0, .string (⟨#[]⟩ : ByteArray), .int .i64 0, .slice none 0 0]) (t := 45) ?hr ?_; (case hd => rfl); (case hg => rfl); (case hr => first | (go_simp; done) | (go_simp; rfl)); intro gb119 hg w11 hbox hb; have n0_ := Aside0.mk (Kd.R_below (by (with_reducible repeat (first | apply Kd.R_alloc | apply Kd.R_drewN | apply Kd.R_drew)); exact HO_3.out) hb); have n1_ := Aside0.mk (below_step (by repeat (first | (with_reducible first | exact HB.out | apply below_alloc | apply pw_below_drewN | apply below_drew1) | exact HB.out)) hb); have n2_ := Aside0.mk (hbox); have n3_ := Aside0.mk ((by rw [hg]; exact (below_size (by repeat (first | (with_reducible first | exact HB.out | apply below_alloc | apply pw_below_drewN | apply below_drew1) | exact HB.out))) : w.heap.size ≤ gb119)); have n4_ := Aside0.mk ((by rw [hg]; exact (below_size (by repeat (first | (with_reducible first | exact HB.out | apply below_alloc | apply pw_below_drewN | apply below_drew1) | exact HB.out))) : w.heap.size ≤ gb119)); clear HO_3; clear HB; have HO_3 := n0_; have HB := n1_; have BK119 := n2_; have GW119 := n3_; have GE119 := n4_; clear n0_ n1_ n2_ n3_ n4_; clear hb hbox hg; have hcz12_0 : w11.cell? ⟨gb119, 0, none⟩ = some (.int .i64 0) := (blk_cell BK119.out 0).trans rfl; have hcz12_1 : w11.cell? ⟨gb119, 1, none⟩ = some (.string (⟨#[]⟩ : ByteArray)) := (blk_cell BK119.out 1).trans rfl; have hcz12_2 : w11.cell? ⟨gb119, 2, none⟩ = some (.int .i64 0) := (blk_cell BK119.out 2).trans rfl; have hcz12_3 : w11.cell? ⟨gb119, 3, none⟩ = some (.slice none 0 0) := (blk_cell BK119.out 3).trans rfl; have hfz12_0 := blk_frozen BK119.out 0; have hfz12_1 := blk_frozen BK119.out 1; have hfz12_2 := blk_frozen BK119.out 2; have hfz12_3 := blk_frozen BK119.out 3; obtain ⟨Ao13, co13, eo13⟩ := Kd.R_slice HO_3.out; subst eo13; have p120 : 0 ≤ (x4_1 : Int) := of_decide_eq_true (by first | (with_reducible assumption) | assumption); have q120 : x4_1 < (x3_1.length : Int) := of_decide_eq_true (by first | (with_reducible assumption) | assumption); obtain ⟨ad120, e120, hx120_0⟩ := Kd.at_int (Kd.R_reads' HO_3.out).2.2 x4_1 p120 q120; cases e120; have hn120_0 : ad120.block ≠ gb119 := Kd.own_blk (Kd.R_ne HO_3.out BK119.out (by decide)); have hn120_1 : ad120.block ≠ gb119 := Kd.own_blk (Kd.R_ne HO_3.out BK119.out (by decide)); have hn120_2 : ad120.block ≠ gb119 := Kd.own_blk (Kd.R_ne HO_3.out BK119.out (by decide)); have hn120_3 : ad120.block ≠ gb119 := Kd.own_blk (Kd.R_ne HO_3.out BK119.out (by decide)); replace hx120_0 := (cell_far (p := ⟨gb119, 0, none⟩) (by first | (rw [add_block]; exact hn120_0) | (show (Addr.add _ _).block ≠ _; rw [add_block]; exact hn120_0) | exact hn120_0) (.int .i64 ((rd_T45 l0 x4_1).f0))).trans hx120_0; replace hx120_0 := (cell_far (p := ⟨gb119, 1, none⟩) (by first | (rw [add_block]; exact hn120_1) | (show (Addr.add _ _).block ≠ _; rw [add_block]; exact hn120_1) | exact hn120_1) (.string ((rd_T45 l0 x4_1).f1))).trans hx120_0; replace hx120_0 := (cell_far (p := ⟨gb119, 2, none⟩) (by first | (rw [add_block]; exact hn120_2) | (show (Addr.add _ _).block ≠ _; rw [add_block]; exact hn120_2) | exact hn120_2) (.int .i64 ((rd_T45 l0 x4_1).f2))).trans hx120_0; replace hx120_0 := (cell_far (p := ⟨gb119, 3, none⟩) (by first | (rw [add_block]; exact hn120_3) | (show (Addr.add _ _).block ≠ _; rw [add_block]; exact hn120_3) | exact hn120_3) (.slice A118_3 ((rd_T45 l0 x4_1).f3).length c118_3)).trans hx120_0; (try have hy120_0 := fun (n_ : Nat) => (show ((((((w11.drewN n_).setCell ⟨gb119, 0, none⟩ (.int .i64 ((rd_T45 l0 x4_1).f0))).setCell ⟨gb119, 1, none⟩ (.string ((rd_T45 l0 x4_1).f1))).setCell ⟨gb119, 2, none⟩ (.int .i64 ((rd_T45 l0 x4_1).f2))).setCell ⟨gb119, 3, none⟩ (.slice A118_3 ((rd_T45 l0 x4_1).f3).length c118_3))).cell? _ = some _ from hx120_0)); clear hn120_0; clear hn120_1; clear hn120_2; clear hn120_3; replace p120 := eq_true p120; replace q120 := eq_true q120))
                  repeat (go_quiet (first | ((with_reducible refine gate_dst (N := 5) rfl ?_); refine box_event ?hg (N := 5) ?hd (cs := #[.int .i64 0, .string (⟨#[]⟩ : ByteArray), .int .i64 0, .slice none 0 0]) (t := 45) ?hr ?_; (case hd => rfl); (case hg => rfl); (case hr => first | (go_simp; done) | (go_simp; rfl)); intro gb119 hg w11 hbox hb; have n0_ := Aside0.mk (Kd.R_below (by (with_reducible repeat (first | apply Kd.R_alloc | apply Kd.R_drewN | apply Kd.R_drew)); exact HO_3.out) hb); have n1_ := Aside0.mk (below_step (by repeat (first | (with_reducible first | exact HB.out | apply below_alloc | apply pw_below_drewN | apply below_drew1) | exact HB.out)) hb); have n2_ := Aside0.mk (hbox); have n3_ := Aside0.mk ((by rw [hg]; exact (below_size (by repeat (first | (with_reducible first | exact HB.out | apply below_alloc | apply pw_below_drewN | apply below_drew1) | exact HB.out))) : w.heap.size ≤ gb119)); have n4_ := Aside0.mk ((by rw [hg]; exact (below_size (by repeat (first | (with_reducible first | exact HB.out | apply below_alloc | apply pw_below_drewN | apply below_drew1) | exact HB.out))) : w.heap.size ≤ gb119)); clear HO_3; clear HB; have HO_3 := n0_; have HB := n1_; have BK119 := n2_; have GW119 := n3_; have GE119 := n4_; clear n0_ n1_ n2_ n3_ n4_; clear hb hbox hg; have hcz12_0 : w11.cell? ⟨gb119, 0, none⟩ = some (.int .i64 0) := (blk_cell BK119.out 0).trans rfl; have hcz12_1 : w11.cell? ⟨gb119, 1, none⟩ = some (.string (⟨#[]⟩ : ByteArray)) := (blk_cell BK119.out 1).trans rfl; have hcz12_2 : w11.cell? ⟨gb119, 2, none⟩ = some (.int .i64 0) := (blk_cell BK119.out 2).trans rfl; have hcz12_3 : w11.cell? ⟨gb119, 3, none⟩ = some (.slice none 0 0) := (blk_cell BK119.out 3).trans rfl; have hfz12_0 := blk_frozen BK119.out 0; have hfz12_1 := blk_frozen BK119.out 1; have hfz12_2 := blk_frozen BK119.out 2; have hfz12_3 := blk_frozen BK119.out 3; obtain ⟨Ao13, co13, eo13⟩ := Kd.R_slice HO_3.out; subst eo13; have p120 : 0 ≤ (x4_1 : Int) := of_decide_eq_true (by first | (with_reducible assumption) | assumption); have q120 : x4_1 < (x3_1.length : Int) := of_decide_eq_true (by first | (with_reducible assumption) | assumption); obtain ⟨ad120, e120, hx120_0⟩ := Kd.at_int (Kd.R_reads' HO_3.out).2.2 x4_1 p120 q120; cases e120; have hn120_0 : ad120.block ≠ gb119 := Kd.own_blk (Kd.R_ne HO_3.out BK119.out (by decide)); have hn120_1 : ad120.block ≠ gb119 := Kd.own_blk (Kd.R_ne HO_3.out BK119.out (by decide)); have hn120_2 : ad120.block ≠ gb119 := Kd.own_blk (Kd.R_ne HO_3.out BK119.out (by decide)); have hn120_3 : ad120.block ≠ gb119 := Kd.own_blk (Kd.R_ne HO_3.out BK119.out (by decide)); replace hx120_0 := (cell_far (p := ⟨gb119, 0, none⟩) (by first | (rw [add_block]; exact hn120_0) | (show (Addr.add _ _).block ≠ _; rw [add_block]; exact hn120_0) | exact hn120_0) (.int .i64 ((rd_T45 l0 x4_1).f0))).trans hx120_0; replace hx120_0 := (cell_far (p := ⟨gb119, 1, none⟩) (by first | (rw [add_block]; exact hn120_1) | (show (Addr.add _ _).block ≠ _; rw [add_block]; exact hn120_1) | exact hn120_1) (.string ((rd_T45 l0 x4_1).f1))).trans hx120_0; replace hx120_0 := (cell_far (p := ⟨gb119, 2, none⟩) (by first | (rw [add_block]; exact hn120_2) | (show (Addr.add _ _).block ≠ _; rw [add_block]; exact hn120_2) | exact hn120_2) (.int .i64 ((rd_T45 l0 x4_1).f2))).trans hx120_0; replace hx120_0 := (cell_far (p := ⟨gb119, 3, none⟩) (by first | (rw [add_block]; exact hn120_3) | (show (Addr.add _ _).block ≠ _; rw [add_block]; exact hn120_3) | exact hn120_3) (.slice A118_3 ((rd_T45 l0 x4_1).f3).length c118_3)).trans hx120_0; (try have hy120_0 := fun (n_ : Nat) => (show ((((((w11.drewN n_).setCell ⟨gb119, 0, none⟩ (.int .i64 ((rd_T45 l0 x4_1).f0))).setCell ⟨gb119, 1, none⟩ (.string ((rd_T45 l0 x4_1).f1))).setCell ⟨gb119, 2, none⟩ (.int .i64 ((rd_T45 l0 x4_1).f2))).setCell ⟨gb119, 3, none⟩ (.slice A118_3 ((rd_T45 l0 x4_1).f3).length c118_3))).cell? _ = some _ from hx120_0)); clear hn120_0; clear hn120_1; clear hn120_2; clear hn120_3; replace p120 := eq_true p120; replace q120 := eq_true q120)); go_upto_block 2 with (first | ((with_reducible refine gate_dst (N := 5) rfl ?_); refine box_event ?hg (N := 5) ?hd (cs := #[.int .i64 0, .string (⟨#[]⟩ : ByteArray), .int .i64 0, .slice none 0 0]) (t := 45) ?hr ?_; (case hd => rfl); (case hg => rfl); (case hr => first | (go_simp; done) | (go_simp; rfl)); intro gb119 hg w11 hbox hb; have n0_ := Aside0.mk (Kd.R_below (by (with_reducible repeat (first | apply Kd.R_alloc | apply Kd.R_drewN | apply Kd.R_drew)); exact HO_3.out) hb); have n1_ := Aside0.mk (below_step (by repeat (first | (with_reducible first | exact HB.out | apply below_alloc | apply pw_below_drewN | apply below_drew1) | exact HB.out)) hb); have n2_ := Aside0.mk (hbox); have n3_ := Aside0.mk ((by rw [hg]; exact (below_size (by repeat (first | (with_reducible first | exact HB.out | apply below_alloc | apply pw_below_drewN | apply below_drew1) | exact HB.out))) : w.heap.size ≤ gb119)); have n4_ := Aside0.mk ((by rw [hg]; exact (below_size (by repeat (first | (with_reducible first | exact HB.out | apply below_alloc | apply pw_below_drewN | apply below_drew1) | exact HB.out))) : w.heap.size ≤ gb119)); clear HO_3; clear HB; have HO_3 := n0_; have HB := n1_; have BK119 := n2_; have GW119 := n3_; have GE119 := n4_; clear n0_ n1_ n2_ n3_ n4_; clear hb hbox hg; have hcz12_0 : w11.cell? ⟨gb119, 0, none⟩ = some (.int .i64 0) := (blk_cell BK119.out 0).trans rfl; have hcz12_1 : w11.cell? ⟨gb119, 1, none⟩ = some (.string (⟨#[]⟩ : ByteArray)) := (blk_cell BK119.out 1).trans rfl; have hcz12_2 : w11.cell? ⟨gb119, 2, none⟩ = some (.int .i64 0) := (blk_cell BK119.out 2).trans rfl; have hcz12_3 : w11.cell? ⟨gb119, 3, none⟩ = some (.slice none 0 0) := (blk_cell BK119.out 3).trans rfl; have hfz12_0 := blk_frozen BK119.out 0; have hfz12_1 := blk_frozen BK119.out 1; have hfz12_2 := blk_frozen BK119.out 2; have hfz12_3 := blk_frozen BK119.out 3; obtain ⟨Ao13, co13, eo13⟩ := Kd.R_slice HO_3.out; subst eo13; have p120 : 0 ≤ (x4_1 : Int) := of_decide_eq_true (by first | (with_reducible assumption) | assumption); have q120 : x4_1 < (x3_1.length : Int) := of_decide_eq_true (by first | (with_reducible assumption) | assumption); obtain ⟨ad120, e120, hx120_0⟩ := Kd.at_int (Kd.R_reads' HO_3.out).2.2 x4_1 p120 q120; cases e120; have hn120_0 : ad120.block ≠ gb119 := Kd.own_blk (Kd.R_ne HO_3.out BK119.out (by decide)); have hn120_1 : ad120.block ≠ gb119 := Kd.own_blk (Kd.R_ne HO_3.out BK119.out (by decide)); have hn120_2 : ad120.block ≠ gb119 := Kd.own_blk (Kd.R_ne HO_3.out BK119.out (by decide)); have hn120_3 : ad120.block ≠ gb119 := Kd.own_blk (Kd.R_ne HO_3.out BK119.out (by decide)); replace hx120_0 := (cell_far (p := ⟨gb119, 0, none⟩) (by first | (rw [add_block]; exact hn120_0) | (show (Addr.add _ _).block ≠ _; rw [add_block]; exact hn120_0) | exact hn120_0) (.int .i64 ((rd_T45 l0 x4_1).f0))).trans hx120_0; replace hx120_0 := (cell_far (p := ⟨gb119, 1, none⟩) (by first | (rw [add_block]; exact hn120_1) | (show (Addr.add _ _).block ≠ _; rw [add_block]; exact hn120_1) | exact hn120_1) (.string ((rd_T45 l0 x4_1).f1))).trans hx120_0; replace hx120_0 := (cell_far (p := ⟨gb119, 2, none⟩) (by first | (rw [add_block]; exact hn120_2) | (show (Addr.add _ _).block ≠ _; rw [add_block]; exact hn120_2) | exact hn120_2) (.int .i64 ((rd_T45 l0 x4_1).f2))).trans hx120_0; replace hx120_0 := (cell_far (p := ⟨gb119, 3, none⟩) (by first | (rw [add_block]; exact hn120_3) | (show (Addr.add _ _).block ≠ _; rw [add_block]; exact hn120_3) | exact hn120_3) (.slice A118_3 ((rd_T45 l0 x4_1).f3).length c118_3)).trans hx120_0; (try have hy120_0 := fun (n_ : Nat) => (show ((((((w11.drewN n_).setCell ⟨gb119, 0, none⟩ (.int .i64 ((rd_T45 l0 x4_1).f0))).setCell ⟨gb119, 1, none⟩ (.string ((rd_T45 l0 x4_1).f1))).setCell ⟨gb119, 2, none⟩ (.int .i64 ((rd_T45 l0 x4_1).f2))).setCell ⟨gb119, 3, none⟩ (.slice A118_3 ((rd_T45 l0 x4_1).f3).length c118_3))).cell? _ = some _ from hx120_0)); clear hn120_0; clear hn120_1; clear hn120_2; clear hn120_3; replace p120 := eq_true p120; replace q120 := eq_true q120)))
                  (try simp only [Act.put, List.setIfInBounds_toArray, List.set_cons_zero, List.set_cons_succ])
                  go_cut [6] (fun v6 wc => ∃ (kq : Nat) (x6_9 : Int), v6 = .int .i64 x6_9 ∧ Aside0 (show_nests.j1 kq l0 x3_1 x4_1 x6_9 ((rd_T45 l0 x4_1).f0) ((rd_T45 l0 x4_1).f1) ((rd_T45 l0 x4_1).f2) ((rd_T45 l0 x4_1).f3) = some r) ∧ Aside0 (kq ≤ k1) ∧ Aside0 (Kd.R (Kd.int .i64) 3 wc w.heap.size (fun _ => True) (.slice (some ad120) x3_1.length co13) x3_1) ∧ Aside0 (wc.heap[gb119]? = some (.cells #[.int .i64 ((rd_T45 l0 x4_1).f0), .string ((rd_T45 l0 x4_1).f1), .int .i64 ((rd_T45 l0 x4_1).f2), (.slice A118_3 ((rd_T45 l0 x4_1).f3).length c118_3)] 45 (0, 0))) ∧ Aside0 (Below w.heap.size w wc))
                  case first =>
                    have H := HC10.out
                    clear HC10
                    by_cases c14 : ((rd_T45 l0 x4_1).f0) = 3
                    · rw [if_pos c14] at H
                      have c14b0 : (((rd_T45 l0 x4_1).f0) == 3) = true := beq_iff_eq.mpr c14
                      have c14b1 : (((rd_T45 l0 x4_1).f0) != 3) = false := bne_eq_false_iff_eq.mpr c14
                      clear c14
                      (first | rw [c14b0] | (simp only [i64_w, i32_w]; rw [c14b0]) | skip)
                      have H' := Aside0.mk H
                      clear H
                      go_wp2
                      repeat (go_quiet (fail); try go_wp2)
                      go_meet
                      case rel => exact ⟨_, (wrap64 ((rd x3_1 x4_1) + 1)), (by first | rfl | (simp; done) | (simp [*]; done)), H', ⟨by have := HK1.out; first | omega | exact Nat.le_refl _⟩, ⟨by (with_reducible repeat (first | apply Kd.R_alloc | apply Kd.R_drewN | apply Kd.R_drew)); exact Kd.R_mono (Kd.R_far (p := ⟨gb119, 3, none⟩) (Kd.R_far (p := ⟨gb119, 2, none⟩) (Kd.R_far (p := ⟨gb119, 1, none⟩) (Kd.R_far (p := ⟨gb119, 0, none⟩) (Kd.R_types HO_3.out BK119.out (by decide)) (fun _ hk => hk.2) (.int .i64 ((rd_T45 l0 x4_1).f0))) (fun _ hk => hk.2) (.string ((rd_T45 l0 x4_1).f1))) (fun _ hk => hk.2) (.int .i64 ((rd_T45 l0 x4_1).f2))) (fun _ hk => hk.2) (.slice A118_3 ((rd_T45 l0 x4_1).f3).length c118_3)) (fun _ hk => trivial)⟩, ⟨by (with_reducible repeat (first | refine blk_drewN ?_ _ | refine blk_drew ?_ | refine blk_alloc ?_ _)); refine blk_put (cs := #[.int .i64 ((rd_T45 l0 x4_1).f0), .string ((rd_T45 l0 x4_1).f1), .int .i64 ((rd_T45 l0 x4_1).f2), .slice none 0 0]) ?_ 3 _ rfl; (with_reducible repeat (first | refine blk_drewN ?_ _ | refine blk_drew ?_ | refine blk_alloc ?_ _)); refine blk_put (cs := #[.int .i64 ((rd_T45 l0 x4_1).f0), .string ((rd_T45 l0 x4_1).f1), .int .i64 0, .slice none 0 0]) ?_ 2 _ rfl; (with_reducible repeat (first | refine blk_drewN ?_ _ | refine blk_drew ?_ | refine blk_alloc ?_ _)); refine blk_put (cs := #[.int .i64 ((rd_T45 l0 x4_1).f0), .string (⟨#[]⟩ : ByteArray), .int .i64 0, .slice none 0 0]) ?_ 1 _ rfl; (with_reducible repeat (first | refine blk_drewN ?_ _ | refine blk_drew ?_ | refine blk_alloc ?_ _)); refine blk_put (cs := #[.int .i64 0, .string (⟨#[]⟩ : ByteArray), .int .i64 0, .slice none 0 0]) ?_ 0 _ rfl; (with_reducible repeat (first | refine blk_drewN ?_ _ | refine blk_drew ?_ | refine blk_alloc ?_ _)); exact BK119.out⟩, ⟨by repeat (first | (with_reducible first | exact HB.out | apply below_alloc | apply pw_below_drewN | apply below_drew1 | refine below_set ?_ GE119.out) | exact HB.out)⟩⟩
                    · rw [if_neg c14] at H
                      have c14b0 : (((rd_T45 l0 x4_1).f0) == 3) = false := beq_eq_false_iff_ne.mpr c14
                      have c14b1 : (((rd_T45 l0 x4_1).f0) != 3) = true := bne_iff_ne.mpr c14
                      (first | rw [c14b0] | (simp only [i64_w, i32_w]; rw [c14b0]) | skip)
                      by_cases c15 : ((rd_T45 l0 x4_1).f0) = 8
                      · rw [if_pos c15] at H
                        have c15b0 : (((rd_T45 l0 x4_1).f0) == 8) = true := beq_iff_eq.mpr c15
                        have c15b1 : (((rd_T45 l0 x4_1).f0) != 8) = false := bne_eq_false_iff_eq.mpr c15
                        clear c15
                        have H' := Aside0.mk H
                        clear H
                        go_wp2
                        repeat (go_quiet (fail); try go_wp2)
                        go_meet
                        case rel => exact ⟨_, (wrap64 ((rd x3_1 x4_1) + 1)), (by first | rfl | (simp; done) | (simp [*]; done)), H', ⟨by have := HK1.out; first | omega | exact Nat.le_refl _⟩, ⟨by (with_reducible repeat (first | apply Kd.R_alloc | apply Kd.R_drewN | apply Kd.R_drew)); exact Kd.R_mono (Kd.R_far (p := ⟨gb119, 3, none⟩) (Kd.R_far (p := ⟨gb119, 2, none⟩) (Kd.R_far (p := ⟨gb119, 1, none⟩) (Kd.R_far (p := ⟨gb119, 0, none⟩) (Kd.R_types HO_3.out BK119.out (by decide)) (fun _ hk => hk.2) (.int .i64 ((rd_T45 l0 x4_1).f0))) (fun _ hk => hk.2) (.string ((rd_T45 l0 x4_1).f1))) (fun _ hk => hk.2) (.int .i64 ((rd_T45 l0 x4_1).f2))) (fun _ hk => hk.2) (.slice A118_3 ((rd_T45 l0 x4_1).f3).length c118_3)) (fun _ hk => trivial)⟩, ⟨by (with_reducible repeat (first | refine blk_drewN ?_ _ | refine blk_drew ?_ | refine blk_alloc ?_ _)); refine blk_put (cs := #[.int .i64 ((rd_T45 l0 x4_1).f0), .string ((rd_T45 l0 x4_1).f1), .int .i64 ((rd_T45 l0 x4_1).f2), .slice none 0 0]) ?_ 3 _ rfl; (with_reducible repeat (first | refine blk_drewN ?_ _ | refine blk_drew ?_ | refine blk_alloc ?_ _)); refine blk_put (cs := #[.int .i64 ((rd_T45 l0 x4_1).f0), .string ((rd_T45 l0 x4_1).f1), .int .i64 0, .slice none 0 0]) ?_ 2 _ rfl; (with_reducible repeat (first | refine blk_drewN ?_ _ | refine blk_drew ?_ | refine blk_alloc ?_ _)); refine blk_put (cs := #[.int .i64 ((rd_T45 l0 x4_1).f0), .string (⟨#[]⟩ : ByteArray), .int .i64 0, .slice none 0 0]) ?_ 1 _ rfl; (with_reducible repeat (first | refine blk_drewN ?_ _ | refine blk_drew ?_ | refine blk_alloc ?_ _)); refine blk_put (cs := #[.int .i64 0, .string (⟨#[]⟩ : ByteArray), .int .i64 0, .slice none 0 0]) ?_ 0 _ rfl; (with_reducible repeat (first | refine blk_drewN ?_ _ | refine blk_drew ?_ | refine blk_alloc ?_ _)); exact BK119.out⟩, ⟨by repeat (first | (with_reducible first | exact HB.out | apply below_alloc | apply pw_below_drewN | apply below_drew1 | refine below_set ?_ GE119.out) | exact HB.out)⟩⟩
                      · rw [if_neg c15] at H
                        have c15b0 : (((rd_T45 l0 x4_1).f0) == 8) = false := beq_eq_false_iff_ne.mpr c15
                        have c15b1 : (((rd_T45 l0 x4_1).f0) != 8) = true := bne_iff_ne.mpr c15
                        by_cases c16 : ((rd_T45 l0 x4_1).f0) = 9
                        · rw [if_pos c16] at H
                          have c16b0 : (((rd_T45 l0 x4_1).f0) == 9) = true := beq_iff_eq.mpr c16
                          have c16b1 : (((rd_T45 l0 x4_1).f0) != 9) = false := bne_eq_false_iff_eq.mpr c16
                          clear c16
                          have H' := Aside0.mk H
                          clear H
                          go_wp2
                          repeat (go_quiet (fail); try go_wp2)
                          go_meet
                          case rel => exact ⟨_, (wrap64 ((rd x3_1 x4_1) + 1)), (by first | rfl | (simp; done) | (simp [*]; done)), H', ⟨by have := HK1.out; first | omega | exact Nat.le_refl _⟩, ⟨by (with_reducible repeat (first | apply Kd.R_alloc | apply Kd.R_drewN | apply Kd.R_drew)); exact Kd.R_mono (Kd.R_far (p := ⟨gb119, 3, none⟩) (Kd.R_far (p := ⟨gb119, 2, none⟩) (Kd.R_far (p := ⟨gb119, 1, none⟩) (Kd.R_far (p := ⟨gb119, 0, none⟩) (Kd.R_types HO_3.out BK119.out (by decide)) (fun _ hk => hk.2) (.int .i64 ((rd_T45 l0 x4_1).f0))) (fun _ hk => hk.2) (.string ((rd_T45 l0 x4_1).f1))) (fun _ hk => hk.2) (.int .i64 ((rd_T45 l0 x4_1).f2))) (fun _ hk => hk.2) (.slice A118_3 ((rd_T45 l0 x4_1).f3).length c118_3)) (fun _ hk => trivial)⟩, ⟨by (with_reducible repeat (first | refine blk_drewN ?_ _ | refine blk_drew ?_ | refine blk_alloc ?_ _)); refine blk_put (cs := #[.int .i64 ((rd_T45 l0 x4_1).f0), .string ((rd_T45 l0 x4_1).f1), .int .i64 ((rd_T45 l0 x4_1).f2), .slice none 0 0]) ?_ 3 _ rfl; (with_reducible repeat (first | refine blk_drewN ?_ _ | refine blk_drew ?_ | refine blk_alloc ?_ _)); refine blk_put (cs := #[.int .i64 ((rd_T45 l0 x4_1).f0), .string ((rd_T45 l0 x4_1).f1), .int .i64 0, .slice none 0 0]) ?_ 2 _ rfl; (with_reducible repeat (first | refine blk_drewN ?_ _ | refine blk_drew ?_ | refine blk_alloc ?_ _)); refine blk_put (cs := #[.int .i64 ((rd_T45 l0 x4_1).f0), .string (⟨#[]⟩ : ByteArray), .int .i64 0, .slice none 0 0]) ?_ 1 _ rfl; (with_reducible repeat (first | refine blk_drewN ?_ _ | refine blk_drew ?_ | refine blk_alloc ?_ _)); refine blk_put (cs := #[.int .i64 0, .string (⟨#[]⟩ : ByteArray), .int .i64 0, .slice none 0 0]) ?_ 0 _ rfl; (with_reducible repeat (first | refine blk_drewN ?_ _ | refine blk_drew ?_ | refine blk_alloc ?_ _)); exact BK119.out⟩, ⟨by repeat (first | (with_reducible first | exact HB.out | apply below_alloc | apply pw_below_drewN | apply below_drew1 | refine below_set ?_ GE119.out) | exact HB.out)⟩⟩
                        · rw [if_neg c16] at H
                          have c16b0 : (((rd_T45 l0 x4_1).f0) == 9) = false := beq_eq_false_iff_ne.mpr c16
                          have c16b1 : (((rd_T45 l0 x4_1).f0) != 9) = true := bne_iff_ne.mpr c16
                          by_cases c17 : ((rd_T45 l0 x4_1).f0) = 20
                          · rw [if_pos c17] at H
                            have c17b0 : (((rd_T45 l0 x4_1).f0) == 20) = true := beq_iff_eq.mpr c17
                            have c17b1 : (((rd_T45 l0 x4_1).f0) != 20) = false := bne_eq_false_iff_eq.mpr c17
                            clear c17
                            have H' := Aside0.mk H
                            clear H
                            go_wp2
                            repeat (go_quiet (fail); try go_wp2)
                            go_meet
                            case rel => exact ⟨_, (wrap64 ((rd x3_1 x4_1) + 1)), (by first | rfl | (simp; done) | (simp [*]; done)), H', ⟨by have := HK1.out; first | omega | exact Nat.le_refl _⟩, ⟨by (with_reducible repeat (first | apply Kd.R_alloc | apply Kd.R_drewN | apply Kd.R_drew)); exact Kd.R_mono (Kd.R_far (p := ⟨gb119, 3, none⟩) (Kd.R_far (p := ⟨gb119, 2, none⟩) (Kd.R_far (p := ⟨gb119, 1, none⟩) (Kd.R_far (p := ⟨gb119, 0, none⟩) (Kd.R_types HO_3.out BK119.out (by decide)) (fun _ hk => hk.2) (.int .i64 ((rd_T45 l0 x4_1).f0))) (fun _ hk => hk.2) (.string ((rd_T45 l0 x4_1).f1))) (fun _ hk => hk.2) (.int .i64 ((rd_T45 l0 x4_1).f2))) (fun _ hk => hk.2) (.slice A118_3 ((rd_T45 l0 x4_1).f3).length c118_3)) (fun _ hk => trivial)⟩, ⟨by (with_reducible repeat (first | refine blk_drewN ?_ _ | refine blk_drew ?_ | refine blk_alloc ?_ _)); refine blk_put (cs := #[.int .i64 ((rd_T45 l0 x4_1).f0), .string ((rd_T45 l0 x4_1).f1), .int .i64 ((rd_T45 l0 x4_1).f2), .slice none 0 0]) ?_ 3 _ rfl; (with_reducible repeat (first | refine blk_drewN ?_ _ | refine blk_drew ?_ | refine blk_alloc ?_ _)); refine blk_put (cs := #[.int .i64 ((rd_T45 l0 x4_1).f0), .string ((rd_T45 l0 x4_1).f1), .int .i64 0, .slice none 0 0]) ?_ 2 _ rfl; (with_reducible repeat (first | refine blk_drewN ?_ _ | refine blk_drew ?_ | refine blk_alloc ?_ _)); refine blk_put (cs := #[.int .i64 ((rd_T45 l0 x4_1).f0), .string (⟨#[]⟩ : ByteArray), .int .i64 0, .slice none 0 0]) ?_ 1 _ rfl; (with_reducible repeat (first | refine blk_drewN ?_ _ | refine blk_drew ?_ | refine blk_alloc ?_ _)); refine blk_put (cs := #[.int .i64 0, .string (⟨#[]⟩ : ByteArray), .int .i64 0, .slice none 0 0]) ?_ 0 _ rfl; (with_reducible repeat (first | refine blk_drewN ?_ _ | refine blk_drew ?_ | refine blk_alloc ?_ _)); exact BK119.out⟩, ⟨by repeat (first | (with_reducible first | exact HB.out | apply below_alloc | apply pw_below_drewN | apply below_drew1 | refine below_set ?_ GE119.out) | exact HB.out)⟩⟩
                          · rw [if_neg c17] at H
                            have c17b0 : (((rd_T45 l0 x4_1).f0) == 20) = false := beq_eq_false_iff_ne.mpr c17
                            have c17b1 : (((rd_T45 l0 x4_1).f0) != 20) = true := bne_iff_ne.mpr c17
                            by_cases c18 : ((rd_T45 l0 x4_1).f0) = 19
                            · rw [if_pos c18] at H
                              have c18b0 : (((rd_T45 l0 x4_1).f0) == 19) = true := beq_iff_eq.mpr c18
                              have c18b1 : (((rd_T45 l0 x4_1).f0) != 19) = false := bne_eq_false_iff_eq.mpr c18
                              clear c18
                              have H' := Aside0.mk H
                              clear H
                              go_wp2
                              repeat (go_quiet (fail); try go_wp2)
                              go_meet
                              case rel => exact ⟨_, (wrap64 ((rd x3_1 x4_1) + 1)), (by first | rfl | (simp; done) | (simp [*]; done)), H', ⟨by have := HK1.out; first | omega | exact Nat.le_refl _⟩, ⟨by (with_reducible repeat (first | apply Kd.R_alloc | apply Kd.R_drewN | apply Kd.R_drew)); exact Kd.R_mono (Kd.R_far (p := ⟨gb119, 3, none⟩) (Kd.R_far (p := ⟨gb119, 2, none⟩) (Kd.R_far (p := ⟨gb119, 1, none⟩) (Kd.R_far (p := ⟨gb119, 0, none⟩) (Kd.R_types HO_3.out BK119.out (by decide)) (fun _ hk => hk.2) (.int .i64 ((rd_T45 l0 x4_1).f0))) (fun _ hk => hk.2) (.string ((rd_T45 l0 x4_1).f1))) (fun _ hk => hk.2) (.int .i64 ((rd_T45 l0 x4_1).f2))) (fun _ hk => hk.2) (.slice A118_3 ((rd_T45 l0 x4_1).f3).length c118_3)) (fun _ hk => trivial)⟩, ⟨by (with_reducible repeat (first | refine blk_drewN ?_ _ | refine blk_drew ?_ | refine blk_alloc ?_ _)); refine blk_put (cs := #[.int .i64 ((rd_T45 l0 x4_1).f0), .string ((rd_T45 l0 x4_1).f1), .int .i64 ((rd_T45 l0 x4_1).f2), .slice none 0 0]) ?_ 3 _ rfl; (with_reducible repeat (first | refine blk_drewN ?_ _ | refine blk_drew ?_ | refine blk_alloc ?_ _)); refine blk_put (cs := #[.int .i64 ((rd_T45 l0 x4_1).f0), .string ((rd_T45 l0 x4_1).f1), .int .i64 0, .slice none 0 0]) ?_ 2 _ rfl; (with_reducible repeat (first | refine blk_drewN ?_ _ | refine blk_drew ?_ | refine blk_alloc ?_ _)); refine blk_put (cs := #[.int .i64 ((rd_T45 l0 x4_1).f0), .string (⟨#[]⟩ : ByteArray), .int .i64 0, .slice none 0 0]) ?_ 1 _ rfl; (with_reducible repeat (first | refine blk_drewN ?_ _ | refine blk_drew ?_ | refine blk_alloc ?_ _)); refine blk_put (cs := #[.int .i64 0, .string (⟨#[]⟩ : ByteArray), .int .i64 0, .slice none 0 0]) ?_ 0 _ rfl; (with_reducible repeat (first | refine blk_drewN ?_ _ | refine blk_drew ?_ | refine blk_alloc ?_ _)); exact BK119.out⟩, ⟨by repeat (first | (with_reducible first | exact HB.out | apply below_alloc | apply pw_below_drewN | apply below_drew1 | refine below_set ?_ GE119.out) | exact HB.out)⟩⟩
                            · rw [if_neg c18] at H
                              have c18b0 : (((rd_T45 l0 x4_1).f0) == 19) = false := beq_eq_false_iff_ne.mpr c18
                              have c18b1 : (((rd_T45 l0 x4_1).f0) != 19) = true := bne_iff_ne.mpr c18
                              have H' := Aside0.mk H
                              clear H
                              go_wp2
                              repeat (go_quiet (fail); try go_wp2)
                              go_meet
                              case rel => exact ⟨_, (rd x3_1 x4_1), (by first | rfl | (simp; done) | (simp [*]; done)), H', ⟨by have := HK1.out; first | omega | exact Nat.le_refl _⟩, ⟨by (with_reducible repeat (first | apply Kd.R_alloc | apply Kd.R_drewN | apply Kd.R_drew)); exact Kd.R_mono (Kd.R_far (p := ⟨gb119, 3, none⟩) (Kd.R_far (p := ⟨gb119, 2, none⟩) (Kd.R_far (p := ⟨gb119, 1, none⟩) (Kd.R_far (p := ⟨gb119, 0, none⟩) (Kd.R_types HO_3.out BK119.out (by decide)) (fun _ hk => hk.2) (.int .i64 ((rd_T45 l0 x4_1).f0))) (fun _ hk => hk.2) (.string ((rd_T45 l0 x4_1).f1))) (fun _ hk => hk.2) (.int .i64 ((rd_T45 l0 x4_1).f2))) (fun _ hk => hk.2) (.slice A118_3 ((rd_T45 l0 x4_1).f3).length c118_3)) (fun _ hk => trivial)⟩, ⟨by (with_reducible repeat (first | refine blk_drewN ?_ _ | refine blk_drew ?_ | refine blk_alloc ?_ _)); refine blk_put (cs := #[.int .i64 ((rd_T45 l0 x4_1).f0), .string ((rd_T45 l0 x4_1).f1), .int .i64 ((rd_T45 l0 x4_1).f2), .slice none 0 0]) ?_ 3 _ rfl; (with_reducible repeat (first | refine blk_drewN ?_ _ | refine blk_drew ?_ | refine blk_alloc ?_ _)); refine blk_put (cs := #[.int .i64 ((rd_T45 l0 x4_1).f0), .string ((rd_T45 l0 x4_1).f1), .int .i64 0, .slice none 0 0]) ?_ 2 _ rfl; (with_reducible repeat (first | refine blk_drewN ?_ _ | refine blk_drew ?_ | refine blk_alloc ?_ _)); refine blk_put (cs := #[.int .i64 ((rd_T45 l0 x4_1).f0), .string (⟨#[]⟩ : ByteArray), .int .i64 0, .slice none 0 0]) ?_ 1 _ rfl; (with_reducible repeat (first | refine blk_drewN ?_ _ | refine blk_drew ?_ | refine blk_alloc ?_ _)); refine blk_put (cs := #[.int .i64 0, .string (⟨#[]⟩ : ByteArray), .int .i64 0, .slice none 0 0]) ?_ 0 _ rfl; (with_reducible repeat (first | refine blk_drewN ?_ _ | refine blk_drew ?_ | refine blk_alloc ?_ _)); exact BK119.out⟩, ⟨by repeat (first | (with_reducible first | exact HB.out | apply below_alloc | apply pw_below_drewN | apply below_drew1 | refine below_set ?_ GE119.out) | exact HB.out)⟩⟩
                  case rest =>
                    clear HC10
                    try clear c1
                    try clear p1
                    try clear q1
                    try clear hx1
                    try clear c2
                    try clear c2b0
                    try clear c2b1
                    try clear p2
                    try clear c3
                    try clear c3b0
                    try clear c3b1
                    try clear c4
                    try clear c6
                    try clear c6b0
                    try clear p6
                    try clear c7
                    try clear c7b0
                    try clear c8
                    try clear c8b0
                    try clear c9
                    try clear c9b0
                    try clear c11
                    try clear p11
                    try clear q11
                    try clear hx11
                    try clear p12
                    try clear q12
                    try clear hx12
                    try clear c14
                    try clear c14b0
                    try clear c14b1
                    try clear c15
                    try clear c15b0
                    try clear c15b1
                    try clear c16
                    try clear c16b0
                    try clear c16b1
                    try clear c17
                    try clear c17b0
                    try clear c17b1
                    try clear c18
                    try clear c18b0
                    try clear c18b1
                    try clear hcz12_0
                    try clear hcz12_1
                    try clear hcz12_2
                    try clear hcz12_3
                    try clear hfz12_0
                    try clear hfz12_1
                    try clear hfz12_2
                    try clear hfz12_3
                    try clear hx118_0
                    try clear hx118_1
                    try clear hx118_2
                    try clear hx118_3
                    try clear hx120_0
                    try clear p118
                    try clear p120
                    try clear p2
                    try clear q118
                    try clear q120
                    obtain ⟨kq, x6_9, rfl, HA, HJ9, HO_3, BK119, HB⟩ := hcut
                    cases kq with
                    | zero => exact absurd HA.out (by simp [show_nests.j1])
                    | succ kj9 =>
                      have H := HA.out
                      clear HA
                      simp only [show_nests.j1] at H
                      have H' := Aside0.mk H
                      clear H
                      have hcz19_0 : wc.cell? ⟨gb119, 0, none⟩ = some (.int .i64 ((rd_T45 l0 x4_1).f0)) := (blk_cell BK119.out 0).trans rfl
                      have hcz19_1 : wc.cell? ⟨gb119, 1, none⟩ = some (.string ((rd_T45 l0 x4_1).f1)) := (blk_cell BK119.out 1).trans rfl
                      have hcz19_2 : wc.cell? ⟨gb119, 2, none⟩ = some (.int .i64 ((rd_T45 l0 x4_1).f2)) := (blk_cell BK119.out 2).trans rfl
                      have hcz19_3 : wc.cell? ⟨gb119, 3, none⟩ = some (.slice A118_3 ((rd_T45 l0 x4_1).f3).length c118_3) := (blk_cell BK119.out 3).trans rfl
                      have hfz19_0 := blk_frozen BK119.out 0
                      have hfz19_1 := blk_frozen BK119.out 1
                      have hfz19_2 := blk_frozen BK119.out 2
                      have hfz19_3 := blk_frozen BK119.out 3
                      go_wp2
                      repeat (go_quiet (fail); try go_wp2)
                      go_loopg [40] kj9 (fun kq v40 w' => ∃ (x3_3 : List Int) (x40_3 : Int), v40 = .int .i64 x40_3 ∧ Aside0 (show_nests.l1 kq l0 x3_3 x4_1 x6_9 ((rd_T45 l0 x4_1).f3) (((rd_T45 l0 x4_1).f3).length : Int) x40_3 ((rd_T45 l0 x4_1).f0) ((rd_T45 l0 x4_1).f1) ((rd_T45 l0 x4_1).f2) ((rd_T45 l0 x4_1).f3) = some r) ∧ Aside0 (kq ≤ kj9) ∧ Aside0 (Kd.R (Kd.int .i64) 3 w' w.heap.size (fun _ => True) (.slice (some ad120) x3_1.length co13) x3_3) ∧ Aside0 (w'.heap[gb119]? = some (.cells #[.int .i64 ((rd_T45 l0 x4_1).f0), .string ((rd_T45 l0 x4_1).f1), .int .i64 ((rd_T45 l0 x4_1).f2), (.slice A118_3 ((rd_T45 l0 x4_1).f3).length c118_3)] 45 (0, 0))) ∧ Aside0 (Below w.heap.size w w'))
                      case atStart => exact ⟨(x3_1), (0), (by first | rfl | (simp; done) | (simp [*]; done)), H', ⟨Nat.le_refl _⟩, ⟨by (with_reducible repeat (first | apply Kd.R_alloc | apply Kd.R_drewN | apply Kd.R_drew)); exact HO_3.out⟩, ⟨by (with_reducible repeat (first | refine blk_drewN ?_ _ | refine blk_drew ?_ | refine blk_alloc ?_ _)); exact BK119.out⟩, ⟨by repeat (first | (with_reducible first | exact HB.out | apply below_alloc | apply pw_below_drewN | apply below_drew1 | refine below_set ?_ GE119.out) | exact HB.out)⟩⟩
                      case round =>
                        clear H'
                        try clear c1
                        try clear p1
                        try clear q1
                        try clear hx1
                        try clear c2
                        try clear c2b0
                        try clear c2b1
                        try clear p2
                        try clear c3
                        try clear c3b0
                        try clear c3b1
                        try clear c4
                        try clear c6
                        try clear c6b0
                        try clear p6
                        try clear c7
                        try clear c7b0
                        try clear c8
                        try clear c8b0
                        try clear c9
                        try clear c9b0
                        try clear c11
                        try clear p11
                        try clear q11
                        try clear hx11
                        try clear p12
                        try clear q12
                        try clear hx12
                        try clear c14
                        try clear c14b0
                        try clear c14b1
                        try clear c15
                        try clear c15b0
                        try clear c15b1
                        try clear c16
                        try clear c16b0
                        try clear c16b1
                        try clear c17
                        try clear c17b0
                        try clear c17b1
                        try clear c18
                        try clear c18b0
                        try clear c18b1
                        try clear hcz12_0
                        try clear hcz12_1
                        try clear hcz12_2
                        try clear hcz12_3
                        try clear hcz19_0
                        try clear hcz19_1
                        try clear hcz19_2
                        try clear hcz19_3
                        try clear hfz12_0
                        try clear hfz12_1
                        try clear hfz12_2
                        try clear hfz12_3
                        try clear hfz19_0
                        try clear hfz19_1
                        try clear hfz19_2
                        try clear hfz19_3
                        try clear hx118_0
                        try clear hx118_1
                        try clear hx118_2
                        try clear hx118_3
                        try clear hx120_0
                        try clear p1
                        try clear p11
                        try clear p118
                        try clear p12
                        try clear p120
                        try clear p2
                        try clear p6
                        try clear q1
                        try clear q11
                        try clear q118
                        try clear q12
                        try clear q120
                        obtain ⟨x3_3, x40_3, rfl, HA, HK3, HO_3, BK119, HB⟩ := hrel
                        have hl3_3 := (Kd.R_reads' HO_3.out).1
                        rw [hl3_3] at HO_3
                        (try simp only [hl3_3])
                        (try simp only [hl3_3] at BK119)
                        cases gk with
                        | zero => exact absurd HA.out (by simp [show_nests.l1])
                        | succ k3 =>
                          have H := HA.out
                          clear HA
                          simp only [show_nests.l1] at H
                          by_cases c20 : x40_3 < (((rd_T45 l0 x4_1).f3).length : Int)
                          · rw [if_pos c20] at H
                            have c20b0 : decide (x40_3 < (((rd_T45 l0 x4_1).f3).length : Int)) = true := decide_eq_true c20
                            clear c20
                            by_cases c21 : 0 ≤ x40_3
                            · rw [if_pos c21] at H
                              have c21b0 : decide (0 ≤ x40_3) = true := decide_eq_true c21
                              clear c21
                              by_cases c22 : x40_3 < (((rd_T45 l0 x4_1).f3).length : Int)
                              · rw [if_pos c22] at H
                                have c22b0 : decide (x40_3 < (((rd_T45 l0 x4_1).f3).length : Int)) = true := decide_eq_true c22
                                clear c22
                                by_cases c23 : 0 ≤ (rd ((rd_T45 l0 x4_1).f3) x40_3)
                                · rw [if_pos c23] at H
                                  have c23b0 : decide (0 ≤ (rd ((rd_T45 l0 x4_1).f3) x40_3)) = true := decide_eq_true c23
                                  clear c23
                                  by_cases c24 : (rd ((rd_T45 l0 x4_1).f3) x40_3) < (x3_3.length : Int)
                                  · rw [if_pos c24] at H
                                    have c24b0 : decide ((rd ((rd_T45 l0 x4_1).f3) x40_3) < (x3_3.length : Int)) = true := decide_eq_true c24
                                    clear c24
                                    obtain ⟨y122, hy122⟩ : ∃ y_ : List Int, y_ = (x3_3.set ((rd ((rd_T45 l0 x4_1).f3) x40_3) : Int).toNat x6_9) := ⟨_, rfl⟩
                                    replace H : (if (rd ((rd_T45 l0 x4_1).f3) x40_3) < (l0.length : Int) then ((show_bracketed.f k3 ((rd_T45 l0 x4_1).f0) ((rd_T45 l0 (rd ((rd_T45 l0 x4_1).f3) x40_3)).f0)).bind fun t124 => (if t124 = true then (show_nests.l1 k3 l0 (y122.set ((rd ((rd_T45 l0 x4_1).f3) x40_3) : Int).toNat (wrap64 ((rd y122 (rd ((rd_T45 l0 x4_1).f3) x40_3)) + 1))) x4_1 x6_9 ((rd_T45 l0 x4_1).f3) (((rd_T45 l0 x4_1).f3).length : Int) (wrap64 (x40_3 + 1)) ((rd_T45 l0 x4_1).f0) ((rd_T45 l0 x4_1).f1) ((rd_T45 l0 x4_1).f2) ((rd_T45 l0 x4_1).f3)) else (show_nests.l1 k3 l0 y122 x4_1 x6_9 ((rd_T45 l0 x4_1).f3) (((rd_T45 l0 x4_1).f3).length : Int) (wrap64 (x40_3 + 1)) ((rd_T45 l0 x4_1).f0) ((rd_T45 l0 x4_1).f1) ((rd_T45 l0 x4_1).f2) ((rd_T45 l0 x4_1).f3)))) else (none)) = some r := by first | (rw [hy122]; with_reducible exact H) | (have H2_ := (Option.bind_some _ _).symm.trans H; rw [hy122]; with_reducible exact H2_) | (have H2_ := (Option.bind_some _ _).symm.trans H; with_reducible exact H2_) | with_reducible exact H | (rw [hy122]; exact H) | exact H
                                    have Ny122 := Aside0.mk hy122
                                    clear hy122
                                    by_cases c26 : (rd ((rd_T45 l0 x4_1).f3) x40_3) < (l0.length : Int)
                                    · rw [if_pos c26] at H
                                      have c26b0 : decide ((rd ((rd_T45 l0 x4_1).f3) x40_3) < (l0.length : Int)) = true := decide_eq_true c26
                                      clear c26
                                      replace H := Option.bind_eq_some_iff.mp H
                                      obtain ⟨t124, A270, H⟩ := H
                                      replace H : (if t124 = true then (show_nests.l1 k3 l0 (y122.set ((rd ((rd_T45 l0 x4_1).f3) x40_3) : Int).toNat (wrap64 ((rd y122 (rd ((rd_T45 l0 x4_1).f3) x40_3)) + 1))) x4_1 x6_9 ((rd_T45 l0 x4_1).f3) (((rd_T45 l0 x4_1).f3).length : Int) (wrap64 (x40_3 + 1)) ((rd_T45 l0 x4_1).f0) ((rd_T45 l0 x4_1).f1) ((rd_T45 l0 x4_1).f2) ((rd_T45 l0 x4_1).f3)) else (show_nests.l1 k3 l0 y122 x4_1 x6_9 ((rd_T45 l0 x4_1).f3) (((rd_T45 l0 x4_1).f3).length : Int) (wrap64 (x40_3 + 1)) ((rd_T45 l0 x4_1).f0) ((rd_T45 l0 x4_1).f1) ((rd_T45 l0 x4_1).f2) ((rd_T45 l0 x4_1).f3))) = some r := H
                                      have A27 := Aside0.mk A270
                                      clear A270
                                      by_cases c28 : t124 = true
                                      · subst c28
                                        have H1 : (show_nests.l1 k3 l0 (y122.set ((rd ((rd_T45 l0 x4_1).f3) x40_3) : Int).toNat (wrap64 ((rd y122 (rd ((rd_T45 l0 x4_1).f3) x40_3)) + 1))) x4_1 x6_9 ((rd_T45 l0 x4_1).f3) (((rd_T45 l0 x4_1).f3).length : Int) (wrap64 (x40_3 + 1)) ((rd_T45 l0 x4_1).f0) ((rd_T45 l0 x4_1).f1) ((rd_T45 l0 x4_1).f2) ((rd_T45 l0 x4_1).f3)) = some r := by rw [if_pos rfl] at H; exact H
                                        clear H
                                        have H := H1
                                        clear H1
                                        obtain ⟨y126, hy126⟩ : ∃ y_ : List Int, y_ = (y122.set ((rd ((rd_T45 l0 x4_1).f3) x40_3) : Int).toNat (wrap64 ((rd y122 (rd ((rd_T45 l0 x4_1).f3) x40_3)) + 1))) := ⟨_, rfl⟩
                                        replace H : (show_nests.l1 k3 l0 y126 x4_1 x6_9 ((rd_T45 l0 x4_1).f3) (((rd_T45 l0 x4_1).f3).length : Int) (wrap64 (x40_3 + 1)) ((rd_T45 l0 x4_1).f0) ((rd_T45 l0 x4_1).f1) ((rd_T45 l0 x4_1).f2) ((rd_T45 l0 x4_1).f3)) = some r := by first | (rw [hy126]; with_reducible exact H) | (have H2_ := (Option.bind_some _ _).symm.trans H; rw [hy126]; with_reducible exact H2_) | (have H2_ := (Option.bind_some _ _).symm.trans H; with_reducible exact H2_) | with_reducible exact H | (rw [hy126]; exact H) | exact H
                                        have Ny126 := Aside0.mk hy126
                                        clear hy126
                                        have H' := Aside0.mk H
                                        clear H
                                        have p121 : 0 ≤ (x40_3 : Int) := of_decide_eq_true (by first | (with_reducible assumption) | assumption)
                                        have q121 : x40_3 < (((rd_T45 l0 x4_1).f3).length : Int) := of_decide_eq_true (by first | (with_reducible assumption) | assumption)
                                        obtain ⟨ad121, e121, hx121_0⟩ := Kd.at_int HR118_3.out x40_3 p121 q121
                                        cases e121
                                        replace hx121_0 := (HB.out.cell (World.block_lt_of_cell? w _ hx121_0)).trans hx121_0
                                        replace p121 := eq_true p121
                                        replace q121 := eq_true q121
                                        have p25 : 0 ≤ ((rd ((rd_T45 l0 x4_1).f3) x40_3) : Int) := of_decide_eq_true (by first | (with_reducible assumption) | assumption)
                                        have q25 : ((rd ((rd_T45 l0 x4_1).f3) x40_3) : Int) < ((x3_3.length : Int) : Int) := of_decide_eq_true (by first | (with_reducible assumption) | assumption)
                                        obtain ⟨go25, co25, eo25, gb25, gl25, cl25, HG25⟩ := Kd.R_form HO_3.out (by omega)
                                        (first | cases eo25 | (injection eo25 with ea_ en_ ec_; (first | subst ea_ | (injection ea_ with ea_; subst ea_)); subst ec_; clear en_))
                                        have GB25 := Aside0.mk gb25
                                        have GG25 := Aside0.mk HG25
                                        clear gb25 gl25 HG25
                                        (first | simp only [add_plain] at hx120_0 | skip)
                                        obtain ⟨hx25_0, hf25_0⟩ := Kd.R_celln 0 HO_3.out ((rd ((rd_T45 l0 x4_1).f3) x40_3) : Int) p25 q25
                                        replace p25 := eq_true p25
                                        replace q25 := eq_true q25
                                        have HP30 := Kd.R_putg HO_3.out ((rd ((rd_T45 l0 x4_1).f3) x40_3) : Int) x6_9
                                        go_wp2_with (first | ((with_reducible refine gate_store (t := 3) (p := 47) rfl ?_); (try (rw [drewN_self wr]; generalize hq_ : World.drewN wr _ = wr; have n0_ := Aside0.mk (Kd.R_at hq_ HO_3.out); have n1_ := Aside0.mk (blk_at hq_ BK119.out); have n2_ := Aside0.mk (below_at hq_ HB.out); clear hq_ HO_3 BK119 HB; have HO_3 := n0_; have BK119 := n1_; have HB := n2_; clear n0_ n1_ n2_; (try (have HP30 := Kd.R_putg HO_3.out ((rd ((rd_T45 l0 x4_1).f3) x40_3) : Int) x6_9)))); refine store_event (t := 3) (p := 47) (v := ?vo_w31) (w1 := (wr.setCell ⟨go25, ((rd ((rd_T45 l0 x4_1).f3) x40_3) : Int).toNat, none⟩ (.int .i64 x6_9))) ?hg ?ho ?hn ?hr ?_; (case ho => rfl); (case hg => rfl); (case hn => rfl); (case hr => first | (go_simp; done) | (go_simp; rfl)); intro w31 hw; have hg : wr.grownBy w31 (some go25) := (by rw [hw]; exact HP30.2); have hp_ : Kd.R (Kd.int .i64) 3 w31 w.heap.size (fun _ => True) (.slice (some ⟨go25, 0, none⟩) x3_3.length co13) y122 := (by rw [hw, Ny122.out]; exact HP30.1); clear HP30; have n0_ := Aside0.mk (hp_); have n1_ := Aside0.mk (blk_grown (g := gb119) (o := .cells #[.int .i64 ((rd_T45 l0 x4_1).f0), .string ((rd_T45 l0 x4_1).f1), .int .i64 ((rd_T45 l0 x4_1).f2), .slice (some ad121) ((rd_T45 l0 x4_1).f3).length c118_3] 45 (0, 0)) (by (with_reducible repeat (first | refine blk_drewN ?_ _ | refine blk_drew ?_ | refine blk_alloc ?_ _)); exact BK119.out) hg (Kd.R_ne HO_3.out BK119.out (by decide))); have n2_ := Aside0.mk ((by rw [hw]; exact below_set (HB.out) GB25.out : Below w.heap.size w w31)); clear HO_3; clear BK119; clear HB; have HO_3 := n0_; have BK119 := n1_; have HB := n2_; clear n0_ n1_ n2_; clear hg hw hp_; have hcz32_0 : w31.cell? ⟨gb119, 0, none⟩ = some (.int .i64 ((rd_T45 l0 x4_1).f0)) := (blk_cell BK119.out 0).trans rfl; have hcz32_1 : w31.cell? ⟨gb119, 1, none⟩ = some (.string ((rd_T45 l0 x4_1).f1)) := (blk_cell BK119.out 1).trans rfl; have hcz32_2 : w31.cell? ⟨gb119, 2, none⟩ = some (.int .i64 ((rd_T45 l0 x4_1).f2)) := (blk_cell BK119.out 2).trans rfl; have hcz32_3 : w31.cell? ⟨gb119, 3, none⟩ = some (.slice (some ad121) ((rd_T45 l0 x4_1).f3).length c118_3) := (blk_cell BK119.out 3).trans rfl; have hfz32_0 := blk_frozen BK119.out 0; have hfz32_1 := blk_frozen BK119.out 1; have hfz32_2 := blk_frozen BK119.out 2; have hfz32_3 := blk_frozen BK119.out 3; have p123 : 0 ≤ ((rd ((rd_T45 l0 x4_1).f3) x40_3) : Int) := of_decide_eq_true (by first | (with_reducible assumption) | assumption); have q123 : (rd ((rd_T45 l0 x4_1).f3) x40_3) < (l0.length : Int) := of_decide_eq_true (by first | (with_reducible assumption) | assumption); obtain ⟨ad123, A123_3, c123_3, e123, hx123_0, hx123_1, hx123_2, hx123_3, hl123_3, hi123_3⟩ := at_T45 HR0.out (rd ((rd_T45 l0 x4_1).f3) x40_3) p123 q123; obtain rfl : ad118 = ad123 := (by injection e123); replace hx123_0 := (HB.out.cell (World.block_lt_of_cell? w _ hx123_0)).trans hx123_0; replace hx123_1 := (HB.out.cell (World.block_lt_of_cell? w _ hx123_1)).trans hx123_1; replace hx123_2 := (HB.out.cell (World.block_lt_of_cell? w _ hx123_2)).trans hx123_2; replace hx123_3 := (HB.out.cell (World.block_lt_of_cell? w _ hx123_3)).trans hx123_3; have HR123_3 := Aside0.mk hi123_3; have HC123_3 := Aside0.mk hl123_3; clear hi123_3 hl123_3; replace p123 := eq_true p123; replace q123 := eq_true q123) | (go_at_call 62; (with_reducible refine (show_bracketed.calls k3 ((rd_T45 l0 x4_1).f0) ((rd_T45 l0 (rd ((rd_T45 l0 x4_1).f3) x40_3)).f0) true _ A27.out).mono ?_); rintro e w' ⟨rfl, ⟨nd, rfl⟩⟩; (try first | exact ⟨rfl, _, World.drewN_drewN _ _ _⟩ | exact ⟨rfl, _, Eq.trans (World.drewN_drewN _ _ _) (congrArg (World.drewN _) (Nat.add_assoc _ _ _))⟩); have p125 : 0 ≤ ((rd ((rd_T45 l0 x4_1).f3) x40_3) : Int) := of_decide_eq_true (by first | (with_reducible assumption) | assumption); have q125 : (rd ((rd_T45 l0 x4_1).f3) x40_3) < (y122.length : Int) := (by have h_ : ((rd ((rd_T45 l0 x4_1).f3) x40_3) : Int) < ((x3_3.length : Int) : Int) := of_decide_eq_true (by first | (with_reducible assumption) | assumption); first | (have e_ := (Kd.R_reads' HO_3.out).1; omega) | simpa only [Ny122.out, List.length_set] using h_); have ql125 : (((rd ((rd_T45 l0 x4_1).f3) x40_3) : Int) < ((x3_3.length : Int) : Int)) = True := eq_true (of_decide_eq_true (by first | (with_reducible assumption) | assumption)); obtain ⟨ad125, e125, hx125_0⟩ := Kd.at_int (Kd.R_reads' HO_3.out).2.2 (rd ((rd_T45 l0 x4_1).f3) x40_3) p125 q125; obtain rfl : (⟨go25, 0, none⟩ : Addr) = ad125 := (by injection e125); (first | simp only [add_plain] at hx125_0 | simp only [add_at] at hx125_0 | simp only [Addr.add, Nat.zero_add] at hx125_0 | skip); replace p125 := eq_true p125; replace q125 := eq_true q125; have p29 : 0 ≤ ((rd ((rd_T45 l0 x4_1).f3) x40_3) : Int) := of_decide_eq_true (by first | (with_reducible assumption) | assumption); have q29 : ((rd ((rd_T45 l0 x4_1).f3) x40_3) : Int) < ((x3_3.length : Int) : Int) := of_decide_eq_true (by first | (with_reducible assumption) | assumption); obtain ⟨hx29_0, hf29_0⟩ := Kd.R_celln 0 HO_3.out ((rd ((rd_T45 l0 x4_1).f3) x40_3) : Int) p29 q29; replace p29 := eq_true p29; replace q29 := eq_true q29; obtain ⟨hy33_, hz33_⟩ := Kd.R_celln 0 HO_3.out ((rd ((rd_T45 l0 x4_1).f3) x40_3) : Int) (of_decide_eq_true (by first | (with_reducible assumption) | assumption)) (of_decide_eq_true (by first | (with_reducible assumption) | assumption)); have HP33 := Kd.R_putg HO_3.out ((rd ((rd_T45 l0 x4_1).f3) x40_3) : Int) (wrap64 ((rd y122 (rd ((rd_T45 l0 x4_1).f3) x40_3)) + 1))) | ((with_reducible refine gate_store (t := 3) (p := 61) rfl ?_); (try (rw [drewN_self w31]; generalize hq_ : World.drewN w31 _ = w31; have n0_ := Aside0.mk (Kd.R_at hq_ HO_3.out); have n1_ := Aside0.mk (blk_at hq_ BK119.out); have n2_ := Aside0.mk (below_at hq_ HB.out); clear hq_ HO_3 BK119 HB; have HO_3 := n0_; have BK119 := n1_; have HB := n2_; clear n0_ n1_ n2_; (try (obtain ⟨hy33_, hz33_⟩ := Kd.R_celln 0 HO_3.out ((rd ((rd_T45 l0 x4_1).f3) x40_3) : Int) (of_decide_eq_true (by first | (with_reducible assumption) | assumption)) (of_decide_eq_true (by first | (with_reducible assumption) | assumption)))); (try (have HP33 := Kd.R_putg HO_3.out ((rd ((rd_T45 l0 x4_1).f3) x40_3) : Int) (wrap64 ((rd y122 (rd ((rd_T45 l0 x4_1).f3) x40_3)) + 1)))))); refine store_event (t := 3) (p := 61) (v := ?vo_w34) (w1 := (w31.setCell ⟨go25, ((rd ((rd_T45 l0 x4_1).f3) x40_3) : Int).toNat, none⟩ (.int .i64 (wrap64 ((rd y122 (rd ((rd_T45 l0 x4_1).f3) x40_3)) + 1))))) ?hg ?ho ?hn ?hr ?_; (case ho => rfl); (case hg => rfl); (case hn => rfl); (case hr => first | (go_simp; done) | (go_simp; rfl)); intro w34 hw; have hg : w31.grownBy w34 (some go25) := (by rw [hw]; exact HP33.2); have hp_ : Kd.R (Kd.int .i64) 3 w34 w.heap.size (fun _ => True) (.slice (some ⟨go25, 0, none⟩) x3_3.length co13) y126 := (by rw [hw, Ny126.out]; exact HP33.1); clear HP33; have n0_ := Aside0.mk (hp_); have n1_ := Aside0.mk (blk_grown (g := gb119) (o := .cells #[.int .i64 ((rd_T45 l0 x4_1).f0), .string ((rd_T45 l0 x4_1).f1), .int .i64 ((rd_T45 l0 x4_1).f2), .slice (some ad121) ((rd_T45 l0 x4_1).f3).length c118_3] 45 (0, 0)) (by (with_reducible repeat (first | refine blk_drewN ?_ _ | refine blk_drew ?_ | refine blk_alloc ?_ _)); exact BK119.out) hg (Kd.R_ne HO_3.out BK119.out (by decide))); have n2_ := Aside0.mk ((by rw [hw]; exact below_set (HB.out) GB25.out : Below w.heap.size w w34)); clear HO_3; clear BK119; clear HB; have HO_3 := n0_; have BK119 := n1_; have HB := n2_; clear n0_ n1_ n2_; clear hg hw hp_))
                                        repeat (go_quiet (first | ((with_reducible refine gate_store (t := 3) (p := 47) rfl ?_); (try (rw [drewN_self wr]; generalize hq_ : World.drewN wr _ = wr; have n0_ := Aside0.mk (Kd.R_at hq_ HO_3.out); have n1_ := Aside0.mk (blk_at hq_ BK119.out); have n2_ := Aside0.mk (below_at hq_ HB.out); clear hq_ HO_3 BK119 HB; have HO_3 := n0_; have BK119 := n1_; have HB := n2_; clear n0_ n1_ n2_; (try (have HP30 := Kd.R_putg HO_3.out ((rd ((rd_T45 l0 x4_1).f3) x40_3) : Int) x6_9)))); refine store_event (t := 3) (p := 47) (v := ?vo_w31) (w1 := (wr.setCell ⟨go25, ((rd ((rd_T45 l0 x4_1).f3) x40_3) : Int).toNat, none⟩ (.int .i64 x6_9))) ?hg ?ho ?hn ?hr ?_; (case ho => rfl); (case hg => rfl); (case hn => rfl); (case hr => first | (go_simp; done) | (go_simp; rfl)); intro w31 hw; have hg : wr.grownBy w31 (some go25) := (by rw [hw]; exact HP30.2); have hp_ : Kd.R (Kd.int .i64) 3 w31 w.heap.size (fun _ => True) (.slice (some ⟨go25, 0, none⟩) x3_3.length co13) y122 := (by rw [hw, Ny122.out]; exact HP30.1); clear HP30; have n0_ := Aside0.mk (hp_); have n1_ := Aside0.mk (blk_grown (g := gb119) (o := .cells #[.int .i64 ((rd_T45 l0 x4_1).f0), .string ((rd_T45 l0 x4_1).f1), .int .i64 ((rd_T45 l0 x4_1).f2), .slice (some ad121) ((rd_T45 l0 x4_1).f3).length c118_3] 45 (0, 0)) (by (with_reducible repeat (first | refine blk_drewN ?_ _ | refine blk_drew ?_ | refine blk_alloc ?_ _)); exact BK119.out) hg (Kd.R_ne HO_3.out BK119.out (by decide))); have n2_ := Aside0.mk ((by rw [hw]; exact below_set (HB.out) GB25.out : Below w.heap.size w w31)); clear HO_3; clear BK119; clear HB; have HO_3 := n0_; have BK119 := n1_; have HB := n2_; clear n0_ n1_ n2_; clear hg hw hp_; have hcz32_0 : w31.cell? ⟨gb119, 0, none⟩ = some (.int .i64 ((rd_T45 l0 x4_1).f0)) := (blk_cell BK119.out 0).trans rfl; have hcz32_1 : w31.cell? ⟨gb119, 1, none⟩ = some (.string ((rd_T45 l0 x4_1).f1)) := (blk_cell BK119.out 1).trans rfl; have hcz32_2 : w31.cell? ⟨gb119, 2, none⟩ = some (.int .i64 ((rd_T45 l0 x4_1).f2)) := (blk_cell BK119.out 2).trans rfl; have hcz32_3 : w31.cell? ⟨gb119, 3, none⟩ = some (.slice (some ad121) ((rd_T45 l0 x4_1).f3).length c118_3) := (blk_cell BK119.out 3).trans rfl; have hfz32_0 := blk_frozen BK119.out 0; have hfz32_1 := blk_frozen BK119.out 1; have hfz32_2 := blk_frozen BK119.out 2; have hfz32_3 := blk_frozen BK119.out 3; have p123 : 0 ≤ ((rd ((rd_T45 l0 x4_1).f3) x40_3) : Int) := of_decide_eq_true (by first | (with_reducible assumption) | assumption); have q123 : (rd ((rd_T45 l0 x4_1).f3) x40_3) < (l0.length : Int) := of_decide_eq_true (by first | (with_reducible assumption) | assumption); obtain ⟨ad123, A123_3, c123_3, e123, hx123_0, hx123_1, hx123_2, hx123_3, hl123_3, hi123_3⟩ := at_T45 HR0.out (rd ((rd_T45 l0 x4_1).f3) x40_3) p123 q123; obtain rfl : ad118 = ad123 := (by injection e123); replace hx123_0 := (HB.out.cell (World.block_lt_of_cell? w _ hx123_0)).trans hx123_0; replace hx123_1 := (HB.out.cell (World.block_lt_of_cell? w _ hx123_1)).trans hx123_1; replace hx123_2 := (HB.out.cell (World.block_lt_of_cell? w _ hx123_2)).trans hx123_2; replace hx123_3 := (HB.out.cell (World.block_lt_of_cell? w _ hx123_3)).trans hx123_3; have HR123_3 := Aside0.mk hi123_3; have HC123_3 := Aside0.mk hl123_3; clear hi123_3 hl123_3; replace p123 := eq_true p123; replace q123 := eq_true q123) | (go_at_call 62; (with_reducible refine (show_bracketed.calls k3 ((rd_T45 l0 x4_1).f0) ((rd_T45 l0 (rd ((rd_T45 l0 x4_1).f3) x40_3)).f0) true _ A27.out).mono ?_); rintro e w' ⟨rfl, ⟨nd, rfl⟩⟩; (try first | exact ⟨rfl, _, World.drewN_drewN _ _ _⟩ | exact ⟨rfl, _, Eq.trans (World.drewN_drewN _ _ _) (congrArg (World.drewN _) (Nat.add_assoc _ _ _))⟩); have p125 : 0 ≤ ((rd ((rd_T45 l0 x4_1).f3) x40_3) : Int) := of_decide_eq_true (by first | (with_reducible assumption) | assumption); have q125 : (rd ((rd_T45 l0 x4_1).f3) x40_3) < (y122.length : Int) := (by have h_ : ((rd ((rd_T45 l0 x4_1).f3) x40_3) : Int) < ((x3_3.length : Int) : Int) := of_decide_eq_true (by first | (with_reducible assumption) | assumption); first | (have e_ := (Kd.R_reads' HO_3.out).1; omega) | simpa only [Ny122.out, List.length_set] using h_); have ql125 : (((rd ((rd_T45 l0 x4_1).f3) x40_3) : Int) < ((x3_3.length : Int) : Int)) = True := eq_true (of_decide_eq_true (by first | (with_reducible assumption) | assumption)); obtain ⟨ad125, e125, hx125_0⟩ := Kd.at_int (Kd.R_reads' HO_3.out).2.2 (rd ((rd_T45 l0 x4_1).f3) x40_3) p125 q125; obtain rfl : (⟨go25, 0, none⟩ : Addr) = ad125 := (by injection e125); (first | simp only [add_plain] at hx125_0 | simp only [add_at] at hx125_0 | simp only [Addr.add, Nat.zero_add] at hx125_0 | skip); replace p125 := eq_true p125; replace q125 := eq_true q125; have p29 : 0 ≤ ((rd ((rd_T45 l0 x4_1).f3) x40_3) : Int) := of_decide_eq_true (by first | (with_reducible assumption) | assumption); have q29 : ((rd ((rd_T45 l0 x4_1).f3) x40_3) : Int) < ((x3_3.length : Int) : Int) := of_decide_eq_true (by first | (with_reducible assumption) | assumption); obtain ⟨hx29_0, hf29_0⟩ := Kd.R_celln 0 HO_3.out ((rd ((rd_T45 l0 x4_1).f3) x40_3) : Int) p29 q29; replace p29 := eq_true p29; replace q29 := eq_true q29; obtain ⟨hy33_, hz33_⟩ := Kd.R_celln 0 HO_3.out ((rd ((rd_T45 l0 x4_1).f3) x40_3) : Int) (of_decide_eq_true (by first | (with_reducible assumption) | assumption)) (of_decide_eq_true (by first | (with_reducible assumption) | assumption)); have HP33 := Kd.R_putg HO_3.out ((rd ((rd_T45 l0 x4_1).f3) x40_3) : Int) (wrap64 ((rd y122 (rd ((rd_T45 l0 x4_1).f3) x40_3)) + 1))) | ((with_reducible refine gate_store (t := 3) (p := 61) rfl ?_); (try (rw [drewN_self w31]; generalize hq_ : World.drewN w31 _ = w31; have n0_ := Aside0.mk (Kd.R_at hq_ HO_3.out); have n1_ := Aside0.mk (blk_at hq_ BK119.out); have n2_ := Aside0.mk (below_at hq_ HB.out); clear hq_ HO_3 BK119 HB; have HO_3 := n0_; have BK119 := n1_; have HB := n2_; clear n0_ n1_ n2_; (try (obtain ⟨hy33_, hz33_⟩ := Kd.R_celln 0 HO_3.out ((rd ((rd_T45 l0 x4_1).f3) x40_3) : Int) (of_decide_eq_true (by first | (with_reducible assumption) | assumption)) (of_decide_eq_true (by first | (with_reducible assumption) | assumption)))); (try (have HP33 := Kd.R_putg HO_3.out ((rd ((rd_T45 l0 x4_1).f3) x40_3) : Int) (wrap64 ((rd y122 (rd ((rd_T45 l0 x4_1).f3) x40_3)) + 1)))))); refine store_event (t := 3) (p := 61) (v := ?vo_w34) (w1 := (w31.setCell ⟨go25, ((rd ((rd_T45 l0 x4_1).f3) x40_3) : Int).toNat, none⟩ (.int .i64 (wrap64 ((rd y122 (rd ((rd_T45 l0 x4_1).f3) x40_3)) + 1))))) ?hg ?ho ?hn ?hr ?_; (case ho => rfl); (case hg => rfl); (case hn => rfl); (case hr => first | (go_simp; done) | (go_simp; rfl)); intro w34 hw; have hg : w31.grownBy w34 (some go25) := (by rw [hw]; exact HP33.2); have hp_ : Kd.R (Kd.int .i64) 3 w34 w.heap.size (fun _ => True) (.slice (some ⟨go25, 0, none⟩) x3_3.length co13) y126 := (by rw [hw, Ny126.out]; exact HP33.1); clear HP33; have n0_ := Aside0.mk (hp_); have n1_ := Aside0.mk (blk_grown (g := gb119) (o := .cells #[.int .i64 ((rd_T45 l0 x4_1).f0), .string ((rd_T45 l0 x4_1).f1), .int .i64 ((rd_T45 l0 x4_1).f2), .slice (some ad121) ((rd_T45 l0 x4_1).f3).length c118_3] 45 (0, 0)) (by (with_reducible repeat (first | refine blk_drewN ?_ _ | refine blk_drew ?_ | refine blk_alloc ?_ _)); exact BK119.out) hg (Kd.R_ne HO_3.out BK119.out (by decide))); have n2_ := Aside0.mk ((by rw [hw]; exact below_set (HB.out) GB25.out : Below w.heap.size w w34)); clear HO_3; clear BK119; clear HB; have HO_3 := n0_; have BK119 := n1_; have HB := n2_; clear n0_ n1_ n2_; clear hg hw hp_)); try go_wp2_with (first | ((with_reducible refine gate_store (t := 3) (p := 47) rfl ?_); (try (rw [drewN_self wr]; generalize hq_ : World.drewN wr _ = wr; have n0_ := Aside0.mk (Kd.R_at hq_ HO_3.out); have n1_ := Aside0.mk (blk_at hq_ BK119.out); have n2_ := Aside0.mk (below_at hq_ HB.out); clear hq_ HO_3 BK119 HB; have HO_3 := n0_; have BK119 := n1_; have HB := n2_; clear n0_ n1_ n2_; (try (have HP30 := Kd.R_putg HO_3.out ((rd ((rd_T45 l0 x4_1).f3) x40_3) : Int) x6_9)))); refine store_event (t := 3) (p := 47) (v := ?vo_w31) (w1 := (wr.setCell ⟨go25, ((rd ((rd_T45 l0 x4_1).f3) x40_3) : Int).toNat, none⟩ (.int .i64 x6_9))) ?hg ?ho ?hn ?hr ?_; (case ho => rfl); (case hg => rfl); (case hn => rfl); (case hr => first | (go_simp; done) | (go_simp; rfl)); intro w31 hw; have hg : wr.grownBy w31 (some go25) := (by rw [hw]; exact HP30.2); have hp_ : Kd.R (Kd.int .i64) 3 w31 w.heap.size (fun _ => True) (.slice (some ⟨go25, 0, none⟩) x3_3.length co13) y122 := (by rw [hw, Ny122.out]; exact HP30.1); clear HP30; have n0_ := Aside0.mk (hp_); have n1_ := Aside0.mk (blk_grown (g := gb119) (o := .cells #[.int .i64 ((rd_T45 l0 x4_1).f0), .string ((rd_T45 l0 x4_1).f1), .int .i64 ((rd_T45 l0 x4_1).f2), .slice (some ad121) ((rd_T45 l0 x4_1).f3).length c118_3] 45 (0, 0)) (by (with_reducible repeat (first | refine blk_drewN ?_ _ | refine blk_drew ?_ | refine blk_alloc ?_ _)); exact BK119.out) hg (Kd.R_ne HO_3.out BK119.out (by decide))); have n2_ := Aside0.mk ((by rw [hw]; exact below_set (HB.out) GB25.out : Below w.heap.size w w31)); clear HO_3; clear BK119; clear HB; have HO_3 := n0_; have BK119 := n1_; have HB := n2_; clear n0_ n1_ n2_; clear hg hw hp_; have hcz32_0 : w31.cell? ⟨gb119, 0, none⟩ = some (.int .i64 ((rd_T45 l0 x4_1).f0)) := (blk_cell BK119.out 0).trans rfl; have hcz32_1 : w31.cell? ⟨gb119, 1, none⟩ = some (.string ((rd_T45 l0 x4_1).f1)) := (blk_cell BK119.out 1).trans rfl; have hcz32_2 : w31.cell? ⟨gb119, 2, none⟩ = some (.int .i64 ((rd_T45 l0 x4_1).f2)) := (blk_cell BK119.out 2).trans rfl; have hcz32_3 : w31.cell? ⟨gb119, 3, none⟩ = some (.slice (some ad121) ((rd_T45 l0 x4_1).f3).length c118_3) := (blk_cell BK119.out 3).trans rfl; have hfz32_0 := blk_frozen BK119.out 0; have hfz32_1 := blk_frozen BK119.out 1; have hfz32_2 := blk_frozen BK119.out 2; have hfz32_3 := blk_frozen BK119.out 3; have p123 : 0 ≤ ((rd ((rd_T45 l0 x4_1).f3) x40_3) : Int) := of_decide_eq_true (by first | (with_reducible assumption) | assumption); have q123 : (rd ((rd_T45 l0 x4_1).f3) x40_3) < (l0.length : Int) := of_decide_eq_true (by first | (with_reducible assumption) | assumption); obtain ⟨ad123, A123_3, c123_3, e123, hx123_0, hx123_1, hx123_2, hx123_3, hl123_3, hi123_3⟩ := at_T45 HR0.out (rd ((rd_T45 l0 x4_1).f3) x40_3) p123 q123; obtain rfl : ad118 = ad123 := (by injection e123); replace hx123_0 := (HB.out.cell (World.block_lt_of_cell? w _ hx123_0)).trans hx123_0; replace hx123_1 := (HB.out.cell (World.block_lt_of_cell? w _ hx123_1)).trans hx123_1; replace hx123_2 := (HB.out.cell (World.block_lt_of_cell? w _ hx123_2)).trans hx123_2; replace hx123_3 := (HB.out.cell (World.block_lt_of_cell? w _ hx123_3)).trans hx123_3; have HR123_3 := Aside0.mk hi123_3; have HC123_3 := Aside0.mk hl123_3; clear hi123_3 hl123_3; replace p123 := eq_true p123; replace q123 := eq_true q123) | (go_at_call 62; (with_reducible refine (show_bracketed.calls k3 ((rd_T45 l0 x4_1).f0) ((rd_T45 l0 (rd ((rd_T45 l0 x4_1).f3) x40_3)).f0) true _ A27.out).mono ?_); rintro e w' ⟨rfl, ⟨nd, rfl⟩⟩; (try first | exact ⟨rfl, _, World.drewN_drewN _ _ _⟩ | exact ⟨rfl, _, Eq.trans (World.drewN_drewN _ _ _) (congrArg (World.drewN _) (Nat.add_assoc _ _ _))⟩); have p125 : 0 ≤ ((rd ((rd_T45 l0 x4_1).f3) x40_3) : Int) := of_decide_eq_true (by first | (with_reducible assumption) | assumption); have q125 : (rd ((rd_T45 l0 x4_1).f3) x40_3) < (y122.length : Int) := (by have h_ : ((rd ((rd_T45 l0 x4_1).f3) x40_3) : Int) < ((x3_3.length : Int) : Int) := of_decide_eq_true (by first | (with_reducible assumption) | assumption); first | (have e_ := (Kd.R_reads' HO_3.out).1; omega) | simpa only [Ny122.out, List.length_set] using h_); have ql125 : (((rd ((rd_T45 l0 x4_1).f3) x40_3) : Int) < ((x3_3.length : Int) : Int)) = True := eq_true (of_decide_eq_true (by first | (with_reducible assumption) | assumption)); obtain ⟨ad125, e125, hx125_0⟩ := Kd.at_int (Kd.R_reads' HO_3.out).2.2 (rd ((rd_T45 l0 x4_1).f3) x40_3) p125 q125; obtain rfl : (⟨go25, 0, none⟩ : Addr) = ad125 := (by injection e125); (first | simp only [add_plain] at hx125_0 | simp only [add_at] at hx125_0 | simp only [Addr.add, Nat.zero_add] at hx125_0 | skip); replace p125 := eq_true p125; replace q125 := eq_true q125; have p29 : 0 ≤ ((rd ((rd_T45 l0 x4_1).f3) x40_3) : Int) := of_decide_eq_true (by first | (with_reducible assumption) | assumption); have q29 : ((rd ((rd_T45 l0 x4_1).f3) x40_3) : Int) < ((x3_3.length : Int) : Int) := of_decide_eq_true (by first | (with_reducible assumption) | assumption); obtain ⟨hx29_0, hf29_0⟩ := Kd.R_celln 0 HO_3.out ((rd ((rd_T45 l0 x4_1).f3) x40_3) : Int) p29 q29; replace p29 := eq_true p29; replace q29 := eq_true q29; obtain ⟨hy33_, hz33_⟩ := Kd.R_celln 0 HO_3.out ((rd ((rd_T45 l0 x4_1).f3) x40_3) : Int) (of_decide_eq_true (by first | (with_reducible assumption) | assumption)) (of_decide_eq_true (by first | (with_reducible assumption) | assumption)); have HP33 := Kd.R_putg HO_3.out ((rd ((rd_T45 l0 x4_1).f3) x40_3) : Int) (wrap64 ((rd y122 (rd ((rd_T45 l0 x4_1).f3) x40_3)) + 1))) | ((with_reducible refine gate_store (t := 3) (p := 61) rfl ?_); (try (rw [drewN_self w31]; generalize hq_ : World.drewN w31 _ = w31; have n0_ := Aside0.mk (Kd.R_at hq_ HO_3.out); have n1_ := Aside0.mk (blk_at hq_ BK119.out); have n2_ := Aside0.mk (below_at hq_ HB.out); clear hq_ HO_3 BK119 HB; have HO_3 := n0_; have BK119 := n1_; have HB := n2_; clear n0_ n1_ n2_; (try (obtain ⟨hy33_, hz33_⟩ := Kd.R_celln 0 HO_3.out ((rd ((rd_T45 l0 x4_1).f3) x40_3) : Int) (of_decide_eq_true (by first | (with_reducible assumption) | assumption)) (of_decide_eq_true (by first | (with_reducible assumption) | assumption)))); (try (have HP33 := Kd.R_putg HO_3.out ((rd ((rd_T45 l0 x4_1).f3) x40_3) : Int) (wrap64 ((rd y122 (rd ((rd_T45 l0 x4_1).f3) x40_3)) + 1)))))); refine store_event (t := 3) (p := 61) (v := ?vo_w34) (w1 := (w31.setCell ⟨go25, ((rd ((rd_T45 l0 x4_1).f3) x40_3) : Int).toNat, none⟩ (.int .i64 (wrap64 ((rd y122 (rd ((rd_T45 l0 x4_1).f3) x40_3)) + 1))))) ?hg ?ho ?hn ?hr ?_; (case ho => rfl); (case hg => rfl); (case hn => rfl); (case hr => first | (go_simp; done) | (go_simp; rfl)); intro w34 hw; have hg : w31.grownBy w34 (some go25) := (by rw [hw]; exact HP33.2); have hp_ : Kd.R (Kd.int .i64) 3 w34 w.heap.size (fun _ => True) (.slice (some ⟨go25, 0, none⟩) x3_3.length co13) y126 := (by rw [hw, Ny126.out]; exact HP33.1); clear HP33; have n0_ := Aside0.mk (hp_); have n1_ := Aside0.mk (blk_grown (g := gb119) (o := .cells #[.int .i64 ((rd_T45 l0 x4_1).f0), .string ((rd_T45 l0 x4_1).f1), .int .i64 ((rd_T45 l0 x4_1).f2), .slice (some ad121) ((rd_T45 l0 x4_1).f3).length c118_3] 45 (0, 0)) (by (with_reducible repeat (first | refine blk_drewN ?_ _ | refine blk_drew ?_ | refine blk_alloc ?_ _)); exact BK119.out) hg (Kd.R_ne HO_3.out BK119.out (by decide))); have n2_ := Aside0.mk ((by rw [hw]; exact below_set (HB.out) GB25.out : Below w.heap.size w w34)); clear HO_3; clear BK119; clear HB; have HO_3 := n0_; have BK119 := n1_; have HB := n2_; clear n0_ n1_ n2_; clear hg hw hp_)))
                                        (try simp only [← hl3_3])
                                        go_roundg k3
                                        case measure => have := HK1.out; have := HJ9.out; have := HK3.out; omega
                                        case rel => exact ⟨(y126), (wrap64 (x40_3 + 1)), (by first | rfl | (simp; done) | (simp [*]; done)), H', ⟨by have := HK1.out; have := HJ9.out; have := HK3.out; omega⟩, ⟨by (try simp only [hl3_3]); (with_reducible repeat (first | apply Kd.R_alloc | apply Kd.R_drewN | apply Kd.R_drew)); exact HO_3.out⟩, ⟨by (try simp only [hl3_3]); (with_reducible repeat (first | refine blk_drewN ?_ _ | refine blk_drew ?_ | refine blk_alloc ?_ _)); exact BK119.out⟩, ⟨by repeat (first | (with_reducible first | exact HB.out | apply below_alloc | apply pw_below_drewN | apply below_drew1 | refine below_set ?_ GE119.out) | exact HB.out)⟩⟩
                                      · replace c28 := Bool.eq_false_iff.mpr c28
                                        subst c28
                                        have H1 : (show_nests.l1 k3 l0 y122 x4_1 x6_9 ((rd_T45 l0 x4_1).f3) (((rd_T45 l0 x4_1).f3).length : Int) (wrap64 (x40_3 + 1)) ((rd_T45 l0 x4_1).f0) ((rd_T45 l0 x4_1).f1) ((rd_T45 l0 x4_1).f2) ((rd_T45 l0 x4_1).f3)) = some r := by rw [if_neg (show ¬ (false = true) by decide)] at H; exact H
                                        clear H
                                        have H := H1
                                        clear H1
                                        have H' := Aside0.mk H
                                        clear H
                                        have p121 : 0 ≤ (x40_3 : Int) := of_decide_eq_true (by first | (with_reducible assumption) | assumption)
                                        have q121 : x40_3 < (((rd_T45 l0 x4_1).f3).length : Int) := of_decide_eq_true (by first | (with_reducible assumption) | assumption)
                                        obtain ⟨ad121, e121, hx121_0⟩ := Kd.at_int HR118_3.out x40_3 p121 q121
                                        cases e121
                                        replace hx121_0 := (HB.out.cell (World.block_lt_of_cell? w _ hx121_0)).trans hx121_0
                                        replace p121 := eq_true p121
                                        replace q121 := eq_true q121
                                        have p25 : 0 ≤ ((rd ((rd_T45 l0 x4_1).f3) x40_3) : Int) := of_decide_eq_true (by first | (with_reducible assumption) | assumption)
                                        have q25 : ((rd ((rd_T45 l0 x4_1).f3) x40_3) : Int) < ((x3_3.length : Int) : Int) := of_decide_eq_true (by first | (with_reducible assumption) | assumption)
                                        obtain ⟨go25, co25, eo25, gb25, gl25, cl25, HG25⟩ := Kd.R_form HO_3.out (by omega)
                                        (first | cases eo25 | (injection eo25 with ea_ en_ ec_; (first | subst ea_ | (injection ea_ with ea_; subst ea_)); subst ec_; clear en_))
                                        have GB25 := Aside0.mk gb25
                                        have GG25 := Aside0.mk HG25
                                        clear gb25 gl25 HG25
                                        obtain ⟨hx25_0, hf25_0⟩ := Kd.R_celln 0 HO_3.out ((rd ((rd_T45 l0 x4_1).f3) x40_3) : Int) p25 q25
                                        replace p25 := eq_true p25
                                        replace q25 := eq_true q25
                                        have HP35 := Kd.R_putg HO_3.out ((rd ((rd_T45 l0 x4_1).f3) x40_3) : Int) x6_9
                                        go_wp2_with (first | ((with_reducible refine gate_store (t := 3) (p := 47) rfl ?_); (try (rw [drewN_self wr]; generalize hq_ : World.drewN wr _ = wr; have n0_ := Aside0.mk (Kd.R_at hq_ HO_3.out); have n1_ := Aside0.mk (blk_at hq_ BK119.out); have n2_ := Aside0.mk (below_at hq_ HB.out); clear hq_ HO_3 BK119 HB; have HO_3 := n0_; have BK119 := n1_; have HB := n2_; clear n0_ n1_ n2_; (try (have HP35 := Kd.R_putg HO_3.out ((rd ((rd_T45 l0 x4_1).f3) x40_3) : Int) x6_9)))); refine store_event (t := 3) (p := 47) (v := ?vo_w36) (w1 := (wr.setCell ⟨go25, ((rd ((rd_T45 l0 x4_1).f3) x40_3) : Int).toNat, none⟩ (.int .i64 x6_9))) ?hg ?ho ?hn ?hr ?_; (case ho => rfl); (case hg => rfl); (case hn => rfl); (case hr => first | (go_simp; done) | (go_simp; rfl)); intro w36 hw; have hg : wr.grownBy w36 (some go25) := (by rw [hw]; exact HP35.2); have hp_ : Kd.R (Kd.int .i64) 3 w36 w.heap.size (fun _ => True) (.slice (some ⟨go25, 0, none⟩) x3_3.length co13) y122 := (by rw [hw, Ny122.out]; exact HP35.1); clear HP35; have n0_ := Aside0.mk (hp_); have n1_ := Aside0.mk (blk_grown (g := gb119) (o := .cells #[.int .i64 ((rd_T45 l0 x4_1).f0), .string ((rd_T45 l0 x4_1).f1), .int .i64 ((rd_T45 l0 x4_1).f2), .slice (some ad121) ((rd_T45 l0 x4_1).f3).length c118_3] 45 (0, 0)) (by (with_reducible repeat (first | refine blk_drewN ?_ _ | refine blk_drew ?_ | refine blk_alloc ?_ _)); exact BK119.out) hg (Kd.R_ne HO_3.out BK119.out (by decide))); have n2_ := Aside0.mk ((by rw [hw]; exact below_set (HB.out) GB25.out : Below w.heap.size w w36)); clear HO_3; clear BK119; clear HB; have HO_3 := n0_; have BK119 := n1_; have HB := n2_; clear n0_ n1_ n2_; clear hg hw hp_; have hcz37_0 : w36.cell? ⟨gb119, 0, none⟩ = some (.int .i64 ((rd_T45 l0 x4_1).f0)) := (blk_cell BK119.out 0).trans rfl; have hcz37_1 : w36.cell? ⟨gb119, 1, none⟩ = some (.string ((rd_T45 l0 x4_1).f1)) := (blk_cell BK119.out 1).trans rfl; have hcz37_2 : w36.cell? ⟨gb119, 2, none⟩ = some (.int .i64 ((rd_T45 l0 x4_1).f2)) := (blk_cell BK119.out 2).trans rfl; have hcz37_3 : w36.cell? ⟨gb119, 3, none⟩ = some (.slice (some ad121) ((rd_T45 l0 x4_1).f3).length c118_3) := (blk_cell BK119.out 3).trans rfl; have hfz37_0 := blk_frozen BK119.out 0; have hfz37_1 := blk_frozen BK119.out 1; have hfz37_2 := blk_frozen BK119.out 2; have hfz37_3 := blk_frozen BK119.out 3; have p123 : 0 ≤ ((rd ((rd_T45 l0 x4_1).f3) x40_3) : Int) := of_decide_eq_true (by first | (with_reducible assumption) | assumption); have q123 : (rd ((rd_T45 l0 x4_1).f3) x40_3) < (l0.length : Int) := of_decide_eq_true (by first | (with_reducible assumption) | assumption); obtain ⟨ad123, A123_3, c123_3, e123, hx123_0, hx123_1, hx123_2, hx123_3, hl123_3, hi123_3⟩ := at_T45 HR0.out (rd ((rd_T45 l0 x4_1).f3) x40_3) p123 q123; obtain rfl : ad118 = ad123 := (by injection e123); replace hx123_0 := (HB.out.cell (World.block_lt_of_cell? w _ hx123_0)).trans hx123_0; replace hx123_1 := (HB.out.cell (World.block_lt_of_cell? w _ hx123_1)).trans hx123_1; replace hx123_2 := (HB.out.cell (World.block_lt_of_cell? w _ hx123_2)).trans hx123_2; replace hx123_3 := (HB.out.cell (World.block_lt_of_cell? w _ hx123_3)).trans hx123_3; have HR123_3 := Aside0.mk hi123_3; have HC123_3 := Aside0.mk hl123_3; clear hi123_3 hl123_3; replace p123 := eq_true p123; replace q123 := eq_true q123) | (go_at_call 62; (with_reducible refine (show_bracketed.calls k3 ((rd_T45 l0 x4_1).f0) ((rd_T45 l0 (rd ((rd_T45 l0 x4_1).f3) x40_3)).f0) false _ A27.out).mono ?_); rintro e w' ⟨rfl, ⟨nd, rfl⟩⟩; (try first | exact ⟨rfl, _, World.drewN_drewN _ _ _⟩ | exact ⟨rfl, _, Eq.trans (World.drewN_drewN _ _ _) (congrArg (World.drewN _) (Nat.add_assoc _ _ _))⟩)))
                                        repeat (go_quiet (first | ((with_reducible refine gate_store (t := 3) (p := 47) rfl ?_); (try (rw [drewN_self wr]; generalize hq_ : World.drewN wr _ = wr; have n0_ := Aside0.mk (Kd.R_at hq_ HO_3.out); have n1_ := Aside0.mk (blk_at hq_ BK119.out); have n2_ := Aside0.mk (below_at hq_ HB.out); clear hq_ HO_3 BK119 HB; have HO_3 := n0_; have BK119 := n1_; have HB := n2_; clear n0_ n1_ n2_; (try (have HP35 := Kd.R_putg HO_3.out ((rd ((rd_T45 l0 x4_1).f3) x40_3) : Int) x6_9)))); refine store_event (t := 3) (p := 47) (v := ?vo_w36) (w1 := (wr.setCell ⟨go25, ((rd ((rd_T45 l0 x4_1).f3) x40_3) : Int).toNat, none⟩ (.int .i64 x6_9))) ?hg ?ho ?hn ?hr ?_; (case ho => rfl); (case hg => rfl); (case hn => rfl); (case hr => first | (go_simp; done) | (go_simp; rfl)); intro w36 hw; have hg : wr.grownBy w36 (some go25) := (by rw [hw]; exact HP35.2); have hp_ : Kd.R (Kd.int .i64) 3 w36 w.heap.size (fun _ => True) (.slice (some ⟨go25, 0, none⟩) x3_3.length co13) y122 := (by rw [hw, Ny122.out]; exact HP35.1); clear HP35; have n0_ := Aside0.mk (hp_); have n1_ := Aside0.mk (blk_grown (g := gb119) (o := .cells #[.int .i64 ((rd_T45 l0 x4_1).f0), .string ((rd_T45 l0 x4_1).f1), .int .i64 ((rd_T45 l0 x4_1).f2), .slice (some ad121) ((rd_T45 l0 x4_1).f3).length c118_3] 45 (0, 0)) (by (with_reducible repeat (first | refine blk_drewN ?_ _ | refine blk_drew ?_ | refine blk_alloc ?_ _)); exact BK119.out) hg (Kd.R_ne HO_3.out BK119.out (by decide))); have n2_ := Aside0.mk ((by rw [hw]; exact below_set (HB.out) GB25.out : Below w.heap.size w w36)); clear HO_3; clear BK119; clear HB; have HO_3 := n0_; have BK119 := n1_; have HB := n2_; clear n0_ n1_ n2_; clear hg hw hp_; have hcz37_0 : w36.cell? ⟨gb119, 0, none⟩ = some (.int .i64 ((rd_T45 l0 x4_1).f0)) := (blk_cell BK119.out 0).trans rfl; have hcz37_1 : w36.cell? ⟨gb119, 1, none⟩ = some (.string ((rd_T45 l0 x4_1).f1)) := (blk_cell BK119.out 1).trans rfl; have hcz37_2 : w36.cell? ⟨gb119, 2, none⟩ = some (.int .i64 ((rd_T45 l0 x4_1).f2)) := (blk_cell BK119.out 2).trans rfl; have hcz37_3 : w36.cell? ⟨gb119, 3, none⟩ = some (.slice (some ad121) ((rd_T45 l0 x4_1).f3).length c118_3) := (blk_cell BK119.out 3).trans rfl; have hfz37_0 := blk_frozen BK119.out 0; have hfz37_1 := blk_frozen BK119.out 1; have hfz37_2 := blk_frozen BK119.out 2; have hfz37_3 := blk_frozen BK119.out 3; have p123 : 0 ≤ ((rd ((rd_T45 l0 x4_1).f3) x40_3) : Int) := of_decide_eq_true (by first | (with_reducible assumption) | assumption); have q123 : (rd ((rd_T45 l0 x4_1).f3) x40_3) < (l0.length : Int) := of_decide_eq_true (by first | (with_reducible assumption) | assumption); obtain ⟨ad123, A123_3, c123_3, e123, hx123_0, hx123_1, hx123_2, hx123_3, hl123_3, hi123_3⟩ := at_T45 HR0.out (rd ((rd_T45 l0 x4_1).f3) x40_3) p123 q123; obtain rfl : ad118 = ad123 := (by injection e123); replace hx123_0 := (HB.out.cell (World.block_lt_of_cell? w _ hx123_0)).trans hx123_0; replace hx123_1 := (HB.out.cell (World.block_lt_of_cell? w _ hx123_1)).trans hx123_1; replace hx123_2 := (HB.out.cell (World.block_lt_of_cell? w _ hx123_2)).trans hx123_2; replace hx123_3 := (HB.out.cell (World.block_lt_of_cell? w _ hx123_3)).trans hx123_3; have HR123_3 := Aside0.mk hi123_3; have HC123_3 := Aside0.mk hl123_3; clear hi123_3 hl123_3; replace p123 := eq_true p123; replace q123 := eq_true q123) | (go_at_call 62; (with_reducible refine (show_bracketed.calls k3 ((rd_T45 l0 x4_1).f0) ((rd_T45 l0 (rd ((rd_T45 l0 x4_1).f3) x40_3)).f0) false _ A27.out).mono ?_); rintro e w' ⟨rfl, ⟨nd, rfl⟩⟩; (try first | exact ⟨rfl, _, World.drewN_drewN _ _ _⟩ | exact ⟨rfl, _, Eq.trans (World.drewN_drewN _ _ _) (congrArg (World.drewN _) (Nat.add_assoc _ _ _))⟩))); try go_wp2_with (first | ((with_reducible refine gate_store (t := 3) (p := 47) rfl ?_); (try (rw [drewN_self wr]; generalize hq_ : World.drewN wr _ = wr; have n0_ := Aside0.mk (Kd.R_at hq_ HO_3.out); have n1_ := Aside0.mk (blk_at hq_ BK119.out); have n2_ := Aside0.mk (below_at hq_ HB.out); clear hq_ HO_3 BK119 HB; have HO_3 := n0_; have BK119 := n1_; have HB := n2_; clear n0_ n1_ n2_; (try (have HP35 := Kd.R_putg HO_3.out ((rd ((rd_T45 l0 x4_1).f3) x40_3) : Int) x6_9)))); refine store_event (t := 3) (p := 47) (v := ?vo_w36) (w1 := (wr.setCell ⟨go25, ((rd ((rd_T45 l0 x4_1).f3) x40_3) : Int).toNat, none⟩ (.int .i64 x6_9))) ?hg ?ho ?hn ?hr ?_; (case ho => rfl); (case hg => rfl); (case hn => rfl); (case hr => first | (go_simp; done) | (go_simp; rfl)); intro w36 hw; have hg : wr.grownBy w36 (some go25) := (by rw [hw]; exact HP35.2); have hp_ : Kd.R (Kd.int .i64) 3 w36 w.heap.size (fun _ => True) (.slice (some ⟨go25, 0, none⟩) x3_3.length co13) y122 := (by rw [hw, Ny122.out]; exact HP35.1); clear HP35; have n0_ := Aside0.mk (hp_); have n1_ := Aside0.mk (blk_grown (g := gb119) (o := .cells #[.int .i64 ((rd_T45 l0 x4_1).f0), .string ((rd_T45 l0 x4_1).f1), .int .i64 ((rd_T45 l0 x4_1).f2), .slice (some ad121) ((rd_T45 l0 x4_1).f3).length c118_3] 45 (0, 0)) (by (with_reducible repeat (first | refine blk_drewN ?_ _ | refine blk_drew ?_ | refine blk_alloc ?_ _)); exact BK119.out) hg (Kd.R_ne HO_3.out BK119.out (by decide))); have n2_ := Aside0.mk ((by rw [hw]; exact below_set (HB.out) GB25.out : Below w.heap.size w w36)); clear HO_3; clear BK119; clear HB; have HO_3 := n0_; have BK119 := n1_; have HB := n2_; clear n0_ n1_ n2_; clear hg hw hp_; have hcz37_0 : w36.cell? ⟨gb119, 0, none⟩ = some (.int .i64 ((rd_T45 l0 x4_1).f0)) := (blk_cell BK119.out 0).trans rfl; have hcz37_1 : w36.cell? ⟨gb119, 1, none⟩ = some (.string ((rd_T45 l0 x4_1).f1)) := (blk_cell BK119.out 1).trans rfl; have hcz37_2 : w36.cell? ⟨gb119, 2, none⟩ = some (.int .i64 ((rd_T45 l0 x4_1).f2)) := (blk_cell BK119.out 2).trans rfl; have hcz37_3 : w36.cell? ⟨gb119, 3, none⟩ = some (.slice (some ad121) ((rd_T45 l0 x4_1).f3).length c118_3) := (blk_cell BK119.out 3).trans rfl; have hfz37_0 := blk_frozen BK119.out 0; have hfz37_1 := blk_frozen BK119.out 1; have hfz37_2 := blk_frozen BK119.out 2; have hfz37_3 := blk_frozen BK119.out 3; have p123 : 0 ≤ ((rd ((rd_T45 l0 x4_1).f3) x40_3) : Int) := of_decide_eq_true (by first | (with_reducible assumption) | assumption); have q123 : (rd ((rd_T45 l0 x4_1).f3) x40_3) < (l0.length : Int) := of_decide_eq_true (by first | (with_reducible assumption) | assumption); obtain ⟨ad123, A123_3, c123_3, e123, hx123_0, hx123_1, hx123_2, hx123_3, hl123_3, hi123_3⟩ := at_T45 HR0.out (rd ((rd_T45 l0 x4_1).f3) x40_3) p123 q123; obtain rfl : ad118 = ad123 := (by injection e123); replace hx123_0 := (HB.out.cell (World.block_lt_of_cell? w _ hx123_0)).trans hx123_0; replace hx123_1 := (HB.out.cell (World.block_lt_of_cell? w _ hx123_1)).trans hx123_1; replace hx123_2 := (HB.out.cell (World.block_lt_of_cell? w _ hx123_2)).trans hx123_2; replace hx123_3 := (HB.out.cell (World.block_lt_of_cell? w _ hx123_3)).trans hx123_3; have HR123_3 := Aside0.mk hi123_3; have HC123_3 := Aside0.mk hl123_3; clear hi123_3 hl123_3; replace p123 := eq_true p123; replace q123 := eq_true q123) | (go_at_call 62; (with_reducible refine (show_bracketed.calls k3 ((rd_T45 l0 x4_1).f0) ((rd_T45 l0 (rd ((rd_T45 l0 x4_1).f3) x40_3)).f0) false _ A27.out).mono ?_); rintro e w' ⟨rfl, ⟨nd, rfl⟩⟩; (try first | exact ⟨rfl, _, World.drewN_drewN _ _ _⟩ | exact ⟨rfl, _, Eq.trans (World.drewN_drewN _ _ _) (congrArg (World.drewN _) (Nat.add_assoc _ _ _))⟩))))
                                        (try simp only [← hl3_3])
                                        go_roundg k3
                                        case measure => have := HK1.out; have := HJ9.out; have := HK3.out; omega
                                        case rel => exact ⟨(y122), (wrap64 (x40_3 + 1)), (by first | rfl | (simp; done) | (simp [*]; done)), H', ⟨by have := HK1.out; have := HJ9.out; have := HK3.out; omega⟩, ⟨by (try simp only [hl3_3]); (with_reducible repeat (first | apply Kd.R_alloc | apply Kd.R_drewN | apply Kd.R_drew)); exact HO_3.out⟩, ⟨by (try simp only [hl3_3]); (with_reducible repeat (first | refine blk_drewN ?_ _ | refine blk_drew ?_ | refine blk_alloc ?_ _)); exact BK119.out⟩, ⟨by repeat (first | (with_reducible first | exact HB.out | apply below_alloc | apply pw_below_drewN | apply below_drew1 | refine below_set ?_ GE119.out) | exact HB.out)⟩⟩
                                    · rw [if_neg c26] at H
                                      exact absurd H (by simp)
                                  · rw [if_neg c24] at H
                                    exact absurd H (by simp)
                                · rw [if_neg c23] at H
                                  exact absurd H (by simp)
                              · rw [if_neg c22] at H
                                exact absurd H (by simp)
                            · rw [if_neg c21] at H
                              exact absurd H (by simp)
                          · rw [if_neg c20] at H
                            have c20b0 : decide (x40_3 < (((rd_T45 l0 x4_1).f3).length : Int)) = false := decide_eq_false c20
                            clear c20
                            have H' := Aside0.mk H
                            clear H
                            go_wp2
                            repeat (go_quiet (fail); try go_wp2)
                            (try simp only [← hl3_3])
                            go_roundg k3
                            case measure => have := HK1.out; have := HJ9.out; have := HK3.out; omega
                            case rel => exact ⟨(x3_3), (wrap64 (x4_1 - 1)), (by first | rfl | (simp; done) | (simp [*]; done)), H', ⟨by have := HK1.out; have := HJ9.out; have := HK3.out; omega⟩, ⟨by (try simp only [hl3_3]); (with_reducible repeat (first | apply Kd.R_alloc | apply Kd.R_drewN | apply Kd.R_drew)); exact HO_3.out⟩, ⟨by repeat (first | (with_reducible first | exact HB.out | apply below_alloc | apply pw_below_drewN | apply below_drew1 | refine below_set ?_ GE119.out) | exact HB.out)⟩⟩
                · rw [if_neg c9] at H
                  exact absurd H (by simp)
              · rw [if_neg c8] at H
                exact absurd H (by simp)
            · rw [if_neg c7] at H
              exact absurd H (by simp)
          · rw [if_neg c6] at H
            have c6b0 : decide (0 ≤ x4_1) = false := decide_eq_false c6
            clear c6
            obtain rfl := Option.some.inj H
            go_wp2
            repeat (go_quiet (fail); try go_wp2)
            go_ret
            exact ⟨_, by first | rfl | (simp [errW_none, errW_some] <;> rfl) | (simp [*, errW_none, errW_some] <;> rfl), by (with_reducible repeat (first | apply Kd.R_alloc | apply Kd.R_drewN | apply Kd.R_drew)); exact HO_3.out, by repeat (first | (with_reducible first | exact HB.out | apply below_alloc | apply pw_below_drewN | apply below_drew1) | exact HB.out)⟩
    · rw [if_neg c3] at H
      exact absurd H (by simp)
  · rw [if_neg c2] at H
    exact absurd H (by simp)

-- NOT PRINTED: function 22 (show_Nest)

-- NOT PRINTED: function 18 (show_Valid)

-- NOT PRINTED: function 119 (abi_NoEscape)

-- NOT PRINTED: function 107 (strings_Builder_copyCheck)

-- NOT PRINTED: function 82 (strings_Builder_WriteString)

-- NOT PRINTED: function 54 (show_writer_put)

-- NOT PRINTED: function 55 (show_writer_list)

end Go.Proofs.YtghhnnbbjlipcaaGreatDoor.P
