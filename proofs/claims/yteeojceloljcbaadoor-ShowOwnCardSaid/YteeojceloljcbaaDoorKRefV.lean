-- Taken by a program of this session (pick.py) out of what print.sh printed for this seat.
import Derived.Test.YteeojceloljcbaaDoorKRef
namespace Go.Proofs.YteeojceloljcbaaDoor.P
open Go.RowKit Go.Proofs.YteeojceloljcbaaDoorW.PrintWords Go.Proofs.YteeojceloljcbaaDoorW.PrintLast Go.Proofs.YteeojceloljcbaaDoorW.PrintMore
attribute [local go_sem] max2_int min2_int max_two min_two max_three min_three max_four min_four
set_option linter.unusedVariables false
set_option linter.unusedSimpArgs false

/-! ### berthref13_nests: function 21 -/
mutual
def berthref13_nests.l0 : Nat → List Int → Int → List (S45) → Option (List Int)
  | 0, _, _, _ => none
  | k + 1, x3, x4, x242000 => if x4 ≥ 0 then (if 0 ≤ x4 then (if x4 < (x242000.length : Int) then (if ((rd_T45 x242000 x4).f0) = 3 then (berthref13_nests.j1 k x3 x4 ((rd_T45 x242000 x4).f0) 0 true x242000) else (if ((rd_T45 x242000 x4).f0) = 8 then (berthref13_nests.j1 k x3 x4 ((rd_T45 x242000 x4).f0) 0 true x242000) else (if ((rd_T45 x242000 x4).f0) = 9 then (berthref13_nests.j1 k x3 x4 ((rd_T45 x242000 x4).f0) 0 true x242000) else (if ((rd_T45 x242000 x4).f0) = 20 then (berthref13_nests.j1 k x3 x4 ((rd_T45 x242000 x4).f0) 0 true x242000) else (berthref13_nests.j1 k x3 x4 ((rd_T45 x242000 x4).f0) 0 (((rd_T45 x242000 x4).f0) == 19) x242000))))) else (none)) else (none)) else (some x3)
def berthref13_nests.j1 : Nat → List Int → Int → Int → Int → Bool → List (S45) → Option (List Int)
  | 0, _, _, _, _, _, _ => none
  | k + 1, x3, x4, x5, x6, x45, x242000 => if x45 = true then (berthref13_nests.j2 k x3 x4 x5 1 x242000) else (berthref13_nests.j2 k x3 x4 x5 x6 x242000)
def berthref13_nests.j2 : Nat → List Int → Int → Int → Int → List (S45) → Option (List Int)
  | 0, _, _, _, _, _ => none
  | k + 1, x3, x4, x5, x6, x242000 => berthref13_nests.l1 k x3 x4 x5 x6 0 x242000
def berthref13_nests.l1 : Nat → List Int → Int → Int → Int → Int → List (S45) → Option (List Int)
  | 0, _, _, _, _, _, _ => none
  | k + 1, x3, x4, x5, x6, x7, x242000 => if 0 ≤ x4 then (if x4 < (x242000.length : Int) then (if x7 < (((rd_T45 x242000 x4).f3).length : Int) then (if 0 ≤ x7 then (if x4 < (x3.length : Int) then (if 0 ≤ (rd ((rd_T45 x242000 x4).f3) x7) then (if (rd ((rd_T45 x242000 x4).f3) x7) < (x3.length : Int) then ((some (x3.set ((rd ((rd_T45 x242000 x4).f3) x7) : Int).toNat (wrap64 ((rd x3 x4) + x6)) : List Int)).bind fun y250 => (if (rd ((rd_T45 x242000 x4).f3) x7) < (x242000.length : Int) then ((berthref13_brackets.f k x5 ((rd_T45 x242000 (rd ((rd_T45 x242000 x4).f3) x7)).f0)).bind fun t252 => (if t252 = true then (berthref13_nests.l1 k (y250.set ((rd ((rd_T45 x242000 x4).f3) x7) : Int).toNat (wrap64 ((rd y250 (rd ((rd_T45 x242000 x4).f3) x7)) + 1))) x4 x5 x6 (wrap64 (x7 + 1)) x242000) else (berthref13_nests.l1 k y250 x4 x5 x6 (wrap64 (x7 + 1)) x242000))) else (none))) else (none)) else (none)) else (none)) else (none)) else (berthref13_nests.l0 k x3 (wrap64 (x4 - 1)) x242000)) else (none)) else (none)
end
def berthref13_nests.f (k : Nat) (l0_0 : List (S45)) : Option (List Int) := if 0 ≤ (l0_0.length : Int) then (if ((l0_0.length : Int) : Int).toNat ≤ 35184372088832 then (berthref13_nests.l0 k (List.replicate ((l0_0.length : Int) : Int).toNat 0) (wrap64 ((l0_0.length : Int) - 1)) l0_0) else (none)) else (none)
theorem berthref13_nests.mono_l : ∀ k, (∀ y0 y1 y2, LeO (berthref13_nests.l0 k y0 y1 y2) (berthref13_nests.l0 (k + 1) y0 y1 y2)) ∧ (∀ y0 y1 y2 y3 y4 y5, LeO (berthref13_nests.j1 k y0 y1 y2 y3 y4 y5) (berthref13_nests.j1 (k + 1) y0 y1 y2 y3 y4 y5)) ∧ (∀ y0 y1 y2 y3 y4, LeO (berthref13_nests.j2 k y0 y1 y2 y3 y4) (berthref13_nests.j2 (k + 1) y0 y1 y2 y3 y4)) ∧ (∀ y0 y1 y2 y3 y4 y5, LeO (berthref13_nests.l1 k y0 y1 y2 y3 y4 y5) (berthref13_nests.l1 (k + 1) y0 y1 y2 y3 y4 y5))
  | 0 => ⟨fun _ _ _ r h => by simp [berthref13_nests.l0] at h, fun _ _ _ _ _ _ r h => by simp [berthref13_nests.j1] at h, fun _ _ _ _ _ r h => by simp [berthref13_nests.j2] at h, fun _ _ _ _ _ _ r h => by simp [berthref13_nests.l1] at h⟩
  | k + 1 => by
    obtain ⟨ih0, ih1, ih2, ih3⟩ := berthref13_nests.mono_l k
    refine ⟨?_, ?_, ?_, ?_⟩
    · intro y0 y1 y2
      unfold berthref13_nests.l0
      repeat' first
      | (with_reducible exact ih0 _ _ _)
      | (with_reducible exact ih1 _ _ _ _ _ _)
      | (with_reducible exact ih2 _ _ _ _ _)
      | (with_reducible exact ih3 _ _ _ _ _ _)
      | (with_reducible exact berthref13_brackets.mono _ _ _)
      | (with_reducible exact LeO.refl _)
      | (with_reducible exact LeO.none _)
      | (with_reducible refine LeO.ite ?_ ?_)
      | (with_reducible refine LeO.bind ?_ (fun _ => ?_))
      | exact ih0 _ _ _
      | exact ih1 _ _ _ _ _ _
      | exact ih2 _ _ _ _ _
      | exact ih3 _ _ _ _ _ _
      | exact berthref13_brackets.mono _ _ _
      | exact LeO.none _
      | refine LeO.ite ?_ ?_
      | refine LeO.bind ?_ (fun _ => ?_)
    · intro y0 y1 y2 y3 y4 y5
      unfold berthref13_nests.j1
      repeat' first
      | (with_reducible exact ih0 _ _ _)
      | (with_reducible exact ih1 _ _ _ _ _ _)
      | (with_reducible exact ih2 _ _ _ _ _)
      | (with_reducible exact ih3 _ _ _ _ _ _)
      | (with_reducible exact berthref13_brackets.mono _ _ _)
      | (with_reducible exact LeO.refl _)
      | (with_reducible exact LeO.none _)
      | (with_reducible refine LeO.ite ?_ ?_)
      | (with_reducible refine LeO.bind ?_ (fun _ => ?_))
      | exact ih0 _ _ _
      | exact ih1 _ _ _ _ _ _
      | exact ih2 _ _ _ _ _
      | exact ih3 _ _ _ _ _ _
      | exact berthref13_brackets.mono _ _ _
      | exact LeO.none _
      | refine LeO.ite ?_ ?_
      | refine LeO.bind ?_ (fun _ => ?_)
    · intro y0 y1 y2 y3 y4
      unfold berthref13_nests.j2
      repeat' first
      | (with_reducible exact ih0 _ _ _)
      | (with_reducible exact ih1 _ _ _ _ _ _)
      | (with_reducible exact ih2 _ _ _ _ _)
      | (with_reducible exact ih3 _ _ _ _ _ _)
      | (with_reducible exact berthref13_brackets.mono _ _ _)
      | (with_reducible exact LeO.refl _)
      | (with_reducible exact LeO.none _)
      | (with_reducible refine LeO.ite ?_ ?_)
      | (with_reducible refine LeO.bind ?_ (fun _ => ?_))
      | exact ih0 _ _ _
      | exact ih1 _ _ _ _ _ _
      | exact ih2 _ _ _ _ _
      | exact ih3 _ _ _ _ _ _
      | exact berthref13_brackets.mono _ _ _
      | exact LeO.none _
      | refine LeO.ite ?_ ?_
      | refine LeO.bind ?_ (fun _ => ?_)
    · intro y0 y1 y2 y3 y4 y5
      unfold berthref13_nests.l1
      repeat' first
      | (with_reducible exact ih0 _ _ _)
      | (with_reducible exact ih1 _ _ _ _ _ _)
      | (with_reducible exact ih2 _ _ _ _ _)
      | (with_reducible exact ih3 _ _ _ _ _ _)
      | (with_reducible exact berthref13_brackets.mono _ _ _)
      | (with_reducible exact LeO.refl _)
      | (with_reducible exact LeO.none _)
      | (with_reducible refine LeO.ite ?_ ?_)
      | (with_reducible refine LeO.bind ?_ (fun _ => ?_))
      | exact ih0 _ _ _
      | exact ih1 _ _ _ _ _ _
      | exact ih2 _ _ _ _ _
      | exact ih3 _ _ _ _ _ _
      | exact berthref13_brackets.mono _ _ _
      | exact LeO.none _
      | refine LeO.ite ?_ ?_
      | refine LeO.bind ?_ (fun _ => ?_)
theorem berthref13_nests.mono : ∀ a0 k, LeO (berthref13_nests.f k a0) (berthref13_nests.f (k + 1) a0) := by
  intro a0 k
  obtain ⟨ih0, ih1, ih2, ih3⟩ := berthref13_nests.mono_l k
  unfold berthref13_nests.f
  repeat' first
      | (with_reducible exact ih0 _ _ _)
      | (with_reducible exact ih1 _ _ _ _ _ _)
      | (with_reducible exact ih2 _ _ _ _ _)
      | (with_reducible exact ih3 _ _ _ _ _ _)
      | (with_reducible exact berthref13_brackets.mono _ _ _)
      | (with_reducible exact LeO.refl _)
      | (with_reducible exact LeO.none _)
      | (with_reducible refine LeO.ite ?_ ?_)
      | (with_reducible refine LeO.bind ?_ (fun _ => ?_))
      | exact ih0 _ _ _
      | exact ih1 _ _ _ _ _ _
      | exact ih2 _ _ _ _ _
      | exact ih3 _ _ _ _ _ _
      | exact berthref13_brackets.mono _ _ _
      | exact LeO.none _
      | refine LeO.ite ?_ ?_
      | refine LeO.bind ?_ (fun _ => ?_)
set_option maxHeartbeats 8000000 in
set_option maxRecDepth 100000 in
theorem berthref13_nests.calls (k : Nat) (A0_0 : Option Addr) (c0_0 : Nat) (l0_0 : List (S45)) (r : List Int) (w : World) (hr0_0 : Kd.C k45 w A0_0 l0_0.length l0_0) (hc0_0 : l0_0.length ≤ c0_0) (h : berthref13_nests.f k l0_0 = some r) :
    Calls Tryd.prog 21 #[.agg #[.slice A0_0 l0_0.length c0_0]] w fun e w' => ∃ v0_ : Value, e = .returned (v0_) ∧ Kd.R (Kd.int .i64) 3 w' w.heap.size (fun _ => True) v0_ r ∧ Below w.heap.size w w' := by
  have hu24 := Tryd.underlying24
  have HR0_0 := Aside0.mk hr0_0
  have HC0_0 := Aside0.mk hc0_0
  clear hr0_0 hc0_0
  have HB := Aside0.mk (Below.refl w.heap.size w)
  have H : (if 0 ≤ (l0_0.length : Int) then (if ((l0_0.length : Int) : Int).toNat ≤ 35184372088832 then (berthref13_nests.l0 k (List.replicate ((l0_0.length : Int) : Int).toNat 0) (wrap64 ((l0_0.length : Int) - 1)) l0_0) else (none)) else (none)) = some r := h
  clear h
  by_cases c2 : 0 ≤ (l0_0.length : Int)
  · rw [if_pos c2] at H
    have c2b0 := eq_true c2
    have c2b1 : decide (0 ≤ (l0_0.length : Int)) = true := decide_eq_true c2
    clear c2
    by_cases c3 : ((l0_0.length : Int) : Int).toNat ≤ 35184372088832
    · rw [if_pos c3] at H
      have c3b0 := eq_true c3
      have c3b1 : decide (((l0_0.length : Int) : Int).toNat ≤ 35184372088832) = true := decide_eq_true c3
      clear c3
      obtain ⟨y242, hy242⟩ : ∃ y_ : List Int, y_ = (List.replicate ((l0_0.length : Int) : Int).toNat 0) := ⟨_, rfl⟩
      replace H : (berthref13_nests.l0 k y242 (wrap64 ((l0_0.length : Int) - 1)) l0_0) = some r := by first | (rw [hy242]; with_reducible exact H) | (have H2_ := (Option.bind_some _ _).symm.trans H; rw [hy242]; with_reducible exact H2_) | (have H2_ := (Option.bind_some _ _).symm.trans H; with_reducible exact H2_) | with_reducible exact H | (rw [hy242]; exact H) | exact H
      have Ny242 := Aside0.mk hy242
      clear hy242
      have H' := Aside0.mk H
      clear H
      go_enter Tryd.func21, Tryd.ntmps21
      go_wp2_with (first | ((with_reducible refine gate_dst (N := 1) rfl ?_); refine box_event ?hg (N := 1) ?hd (cs := #[.slice A0_0 l0_0.length c0_0]) (t := 24) ?hr ?_; (case hd => rfl); (case hg => rfl); (case hr => first | (go_simp; done) | (go_simp; rfl)); intro gb241 hg w4 hbox hb; have n0_ := Aside0.mk (below_step (by repeat (first | (with_reducible first | exact HB.out | apply below_alloc | apply pw_below_drewN | apply below_drew1) | exact HB.out)) hb); have n1_ := Aside0.mk (hbox); have n2_ := Aside0.mk ((by rw [hg]; exact (below_size (by repeat (first | (with_reducible first | exact HB.out | apply below_alloc | apply pw_below_drewN | apply below_drew1) | exact HB.out))) : w.heap.size ≤ gb241)); have n3_ := Aside0.mk ((by rw [hg]; exact (below_size (by repeat (first | (with_reducible first | exact HB.out | apply below_alloc | apply pw_below_drewN | apply below_drew1) | exact HB.out))) : w.heap.size ≤ gb241)); clear HB; have HB := n0_; have BK241 := n1_; have GW241 := n2_; have GE241 := n3_; clear n0_ n1_ n2_ n3_; clear hb hbox hg; have hcz5_0 : w4.cell? ⟨gb241, 0, none⟩ = some (.slice A0_0 l0_0.length c0_0) := (blk_cell BK241.out 0).trans rfl; have hfz5_0 := blk_frozen BK241.out 0) | ((with_reducible refine gate_dst (N := 13) rfl ?_); refine Kd.R_make (Kd.int .i64) _ 3 rfl (N := 13) rfl 43 _ _ rfl (l0_0.length : Int) rfl rfl Tryd.underlying43 (.int .i64 0) 8 info3 rfl (by decide) (by omega) 0 (ok := fun _ => True) (okp := fun _ => True) rfl (fun _ hk => hk) trivial (of_decide_eq_true (by first | (with_reducible assumption) | assumption)) (Nat.le_trans (Nat.mul_le_mul_right _ (of_decide_eq_true (by first | (with_reducible assumption) | assumption) : (l0_0.length : Int).toNat ≤ 35184372088832)) (by omega)) (Below.refl _ _) (Nat.le_refl _) ?_; intro v243 w6 ho7 hb hg_ hnew_; clear hg_ hnew_; (first | rw [← Ny242.out] at ho7 | (simp only [Int.reduceToNat] at ho7; rw [← Ny242.out] at ho7)); have n0_ := Aside0.mk (Kd.R_lower ho7 (below_size (by repeat (first | (with_reducible first | exact HB.out | apply below_alloc | apply pw_below_drewN | apply below_drew1 | refine below_set ?_ GE241.out) | exact HB.out)))); have n1_ := Aside0.mk (blk_below (g := gb241) (o := .cells #[.slice A0_0 l0_0.length c0_0] 24 (0, 0)) (by (with_reducible repeat (first | refine blk_drewN ?_ _ | refine blk_drew ?_ | refine blk_alloc ?_ _)); exact BK241.out) hb); have n2_ := Aside0.mk (below_step (by repeat (first | (with_reducible first | exact HB.out | apply below_alloc | apply pw_below_drewN | apply below_drew1 | refine below_set ?_ GE241.out) | exact HB.out)) hb); clear BK241; clear HB; have HO244 := n0_; have BK241 := n1_; have HB := n2_; clear n0_ n1_ n2_; clear hb ho7; have hcz8_0 : w6.cell? ⟨gb241, 0, none⟩ = some (.slice A0_0 l0_0.length c0_0) := (blk_cell BK241.out 0).trans rfl; have hfz8_0 := blk_frozen BK241.out 0))
      go_loopg [4] k (fun kq v4 w' => ∃ (x3_1 : List Int) (x4_1 : Int), v4 = .int .i64 x4_1 ∧ Aside0 (berthref13_nests.l0 kq x3_1 x4_1 l0_0 = some r) ∧ Aside0 (kq ≤ k) ∧ Aside0 (Kd.R (Kd.int .i64) 3 w' w.heap.size (fun _ => True) v243 x3_1) ∧ Aside0 (w'.heap[gb241]? = some (.cells #[(.slice A0_0 l0_0.length c0_0)] 24 (0, 0))) ∧ Aside0 (Below w.heap.size w w'))
      case atStart => exact ⟨(y242), (wrap64 ((l0_0.length : Int) - 1)), (by first | rfl | (simp; done) | (simp [*]; done)), H', ⟨Nat.le_refl _⟩, ⟨by (with_reducible repeat (first | apply Kd.R_alloc | apply Kd.R_drewN | apply Kd.R_drew)); exact HO244.out⟩, ⟨by (with_reducible repeat (first | refine blk_drewN ?_ _ | refine blk_drew ?_ | refine blk_alloc ?_ _)); exact BK241.out⟩, ⟨by repeat (first | (with_reducible first | exact HB.out | apply below_alloc | apply pw_below_drewN | apply below_drew1 | refine below_set ?_ GE241.out) | exact HB.out)⟩⟩
      case round =>
        clear H'
        try clear c2
        try clear c2b0
        try clear c2b1
        try clear p2
        try clear c3
        try clear c3b0
        try clear c3b1
        try clear p6
        try clear hcz5_0
        try clear hcz8_0
        try clear hfz5_0
        try clear hfz8_0
        obtain ⟨x3_1, x4_1, rfl, HA, HK1, HO_3, BK241, HB⟩ := hrel
        cases gk with
        | zero => exact absurd HA.out (by simp [berthref13_nests.l0])
        | succ k1 =>
          have H := HA.out
          clear HA
          simp only [berthref13_nests.l0] at H
          by_cases c9 : x4_1 ≥ 0
          · rw [if_pos c9] at H
            have c9b0 : decide (0 ≤ x4_1) = true := decide_eq_true c9
            clear c9
            by_cases c10 : 0 ≤ x4_1
            · rw [if_pos c10] at H
              have c10b0 : decide (0 ≤ x4_1) = true := decide_eq_true c10
              clear c10
              by_cases c11 : x4_1 < (l0_0.length : Int)
              · rw [if_pos c11] at H
                have c11b0 : decide (x4_1 < (l0_0.length : Int)) = true := decide_eq_true c11
                clear c11
                have HC12 := Aside0.mk H
                clear H
                have hcz13_0 : wr.cell? ⟨gb241, 0, none⟩ = some (.slice A0_0 l0_0.length c0_0) := (blk_cell BK241.out 0).trans rfl
                have hfz13_0 := blk_frozen BK241.out 0
                have p245 : 0 ≤ (x4_1 : Int) := of_decide_eq_true (by first | (with_reducible assumption) | assumption)
                have q245 : x4_1 < (l0_0.length : Int) := of_decide_eq_true (by first | (with_reducible assumption) | assumption)
                obtain ⟨ad245, A245_3, c245_3, e245, hx245_0, hx245_1, hx245_2, hx245_3, hl245_3, hi245_3⟩ := at_T45 HR0_0.out x4_1 p245 q245
                cases e245
                replace hx245_0 := (HB.out.cell (World.block_lt_of_cell? w _ hx245_0)).trans hx245_0
                replace hx245_1 := (HB.out.cell (World.block_lt_of_cell? w _ hx245_1)).trans hx245_1
                replace hx245_2 := (HB.out.cell (World.block_lt_of_cell? w _ hx245_2)).trans hx245_2
                replace hx245_3 := (HB.out.cell (World.block_lt_of_cell? w _ hx245_3)).trans hx245_3
                have HR245_3 := Aside0.mk hi245_3
                have HC245_3 := Aside0.mk hl245_3
                clear hi245_3 hl245_3
                replace p245 := eq_true p245
                replace q245 := eq_true q245
                go_upto_region 7 with (fail)
                go_cut [45] (fun v45 wc => ∃ (kq : Nat) (x45_11 : Bool), v45 = .bool x45_11 ∧ Aside0 (berthref13_nests.j1 kq x3_1 x4_1 ((rd_T45 l0_0 x4_1).f0) 0 x45_11 l0_0 = some r) ∧ Aside0 (kq ≤ k1) ∧ Aside0 (Kd.R (Kd.int .i64) 3 wc w.heap.size (fun _ => True) v243 x3_1) ∧ Aside0 (wc.heap[gb241]? = some (.cells #[(.slice (some ad245) l0_0.length c0_0)] 24 (0, 0))) ∧ Aside0 (Below w.heap.size w wc))
                case first =>
                  have H := HC12.out
                  clear HC12
                  by_cases c14 : ((rd_T45 l0_0 x4_1).f0) = 3
                  · rw [if_pos c14] at H
                    have c14b0 : (((rd_T45 l0_0 x4_1).f0) == 3) = true := beq_iff_eq.mpr c14
                    have c14b1 : (((rd_T45 l0_0 x4_1).f0) != 3) = false := bne_eq_false_iff_eq.mpr c14
                    clear c14
                    (first | rw [c14b0] | (simp only [i64_w, i32_w]; rw [c14b0]) | skip)
                    have H' := Aside0.mk H
                    clear H
                    go_wp2
                    go_meet
                    case rel => exact ⟨_, (true), (by first | rfl | (simp; done) | (simp [*]; done)), H', ⟨by have := HK1.out; first | omega | exact Nat.le_refl _⟩, ⟨by (with_reducible repeat (first | apply Kd.R_alloc | apply Kd.R_drewN | apply Kd.R_drew)); exact HO_3.out⟩, ⟨by (with_reducible repeat (first | refine blk_drewN ?_ _ | refine blk_drew ?_ | refine blk_alloc ?_ _)); exact BK241.out⟩, ⟨by repeat (first | (with_reducible first | exact HB.out | apply below_alloc | apply pw_below_drewN | apply below_drew1 | refine below_set ?_ GE241.out) | exact HB.out)⟩⟩
                  · rw [if_neg c14] at H
                    have c14b0 : (((rd_T45 l0_0 x4_1).f0) == 3) = false := beq_eq_false_iff_ne.mpr c14
                    have c14b1 : (((rd_T45 l0_0 x4_1).f0) != 3) = true := bne_iff_ne.mpr c14
                    (first | rw [c14b0] | (simp only [i64_w, i32_w]; rw [c14b0]) | skip)
                    by_cases c15 : ((rd_T45 l0_0 x4_1).f0) = 8
                    · rw [if_pos c15] at H
                      have c15b0 : (((rd_T45 l0_0 x4_1).f0) == 8) = true := beq_iff_eq.mpr c15
                      have c15b1 : (((rd_T45 l0_0 x4_1).f0) != 8) = false := bne_eq_false_iff_eq.mpr c15
                      clear c15
                      have H' := Aside0.mk H
                      clear H
                      go_wp2
                      go_meet
                      case rel => exact ⟨_, (true), (by first | rfl | (simp; done) | (simp [*]; done)), H', ⟨by have := HK1.out; first | omega | exact Nat.le_refl _⟩, ⟨by (with_reducible repeat (first | apply Kd.R_alloc | apply Kd.R_drewN | apply Kd.R_drew)); exact HO_3.out⟩, ⟨by (with_reducible repeat (first | refine blk_drewN ?_ _ | refine blk_drew ?_ | refine blk_alloc ?_ _)); exact BK241.out⟩, ⟨by repeat (first | (with_reducible first | exact HB.out | apply below_alloc | apply pw_below_drewN | apply below_drew1 | refine below_set ?_ GE241.out) | exact HB.out)⟩⟩
                    · rw [if_neg c15] at H
                      have c15b0 : (((rd_T45 l0_0 x4_1).f0) == 8) = false := beq_eq_false_iff_ne.mpr c15
                      have c15b1 : (((rd_T45 l0_0 x4_1).f0) != 8) = true := bne_iff_ne.mpr c15
                      by_cases c16 : ((rd_T45 l0_0 x4_1).f0) = 9
                      · rw [if_pos c16] at H
                        have c16b0 : (((rd_T45 l0_0 x4_1).f0) == 9) = true := beq_iff_eq.mpr c16
                        have c16b1 : (((rd_T45 l0_0 x4_1).f0) != 9) = false := bne_eq_false_iff_eq.mpr c16
                        clear c16
                        have H' := Aside0.mk H
                        clear H
                        go_wp2
                        go_meet
                        case rel => exact ⟨_, (true), (by first | rfl | (simp; done) | (simp [*]; done)), H', ⟨by have := HK1.out; first | omega | exact Nat.le_refl _⟩, ⟨by (with_reducible repeat (first | apply Kd.R_alloc | apply Kd.R_drewN | apply Kd.R_drew)); exact HO_3.out⟩, ⟨by (with_reducible repeat (first | refine blk_drewN ?_ _ | refine blk_drew ?_ | refine blk_alloc ?_ _)); exact BK241.out⟩, ⟨by repeat (first | (with_reducible first | exact HB.out | apply below_alloc | apply pw_below_drewN | apply below_drew1 | refine below_set ?_ GE241.out) | exact HB.out)⟩⟩
                      · rw [if_neg c16] at H
                        have c16b0 : (((rd_T45 l0_0 x4_1).f0) == 9) = false := beq_eq_false_iff_ne.mpr c16
                        have c16b1 : (((rd_T45 l0_0 x4_1).f0) != 9) = true := bne_iff_ne.mpr c16
                        by_cases c17 : ((rd_T45 l0_0 x4_1).f0) = 20
                        · rw [if_pos c17] at H
                          have c17b0 : (((rd_T45 l0_0 x4_1).f0) == 20) = true := beq_iff_eq.mpr c17
                          have c17b1 : (((rd_T45 l0_0 x4_1).f0) != 20) = false := bne_eq_false_iff_eq.mpr c17
                          clear c17
                          have H' := Aside0.mk H
                          clear H
                          go_wp2
                          go_meet
                          case rel => exact ⟨_, (true), (by first | rfl | (simp; done) | (simp [*]; done)), H', ⟨by have := HK1.out; first | omega | exact Nat.le_refl _⟩, ⟨by (with_reducible repeat (first | apply Kd.R_alloc | apply Kd.R_drewN | apply Kd.R_drew)); exact HO_3.out⟩, ⟨by (with_reducible repeat (first | refine blk_drewN ?_ _ | refine blk_drew ?_ | refine blk_alloc ?_ _)); exact BK241.out⟩, ⟨by repeat (first | (with_reducible first | exact HB.out | apply below_alloc | apply pw_below_drewN | apply below_drew1 | refine below_set ?_ GE241.out) | exact HB.out)⟩⟩
                        · rw [if_neg c17] at H
                          have c17b0 : (((rd_T45 l0_0 x4_1).f0) == 20) = false := beq_eq_false_iff_ne.mpr c17
                          have c17b1 : (((rd_T45 l0_0 x4_1).f0) != 20) = true := bne_iff_ne.mpr c17
                          have H' := Aside0.mk H
                          clear H
                          go_wp2
                          go_meet
                          case rel => exact ⟨_, ((((rd_T45 l0_0 x4_1).f0) == 19)), (by first | rfl | (simp; done) | (simp [*]; done)), H', ⟨by have := HK1.out; first | omega | exact Nat.le_refl _⟩, ⟨by (with_reducible repeat (first | apply Kd.R_alloc | apply Kd.R_drewN | apply Kd.R_drew)); exact HO_3.out⟩, ⟨by (with_reducible repeat (first | refine blk_drewN ?_ _ | refine blk_drew ?_ | refine blk_alloc ?_ _)); exact BK241.out⟩, ⟨by repeat (first | (with_reducible first | exact HB.out | apply below_alloc | apply pw_below_drewN | apply below_drew1 | refine below_set ?_ GE241.out) | exact HB.out)⟩⟩
                case rest =>
                  clear HC12
                  try clear c1
                  try clear c2
                  try clear c2b0
                  try clear c2b1
                  try clear p2
                  try clear q2
                  try clear hx2
                  try clear c3
                  try clear c3b0
                  try clear c3b1
                  try clear p6
                  try clear c9
                  try clear c9b0
                  try clear c10
                  try clear c10b0
                  try clear c11
                  try clear c11b0
                  try clear c14
                  try clear c14b0
                  try clear c14b1
                  try clear c15
                  try clear c15b0
                  try clear c15b1
                  try clear c16
                  try clear c16b0
                  try clear c16b1
                  try clear c17
                  try clear c17b0
                  try clear c17b1
                  try clear hcz13_0
                  try clear hcz5_0
                  try clear hcz8_0
                  try clear hfz13_0
                  try clear hfz5_0
                  try clear hfz8_0
                  try clear hx245_0
                  try clear hx245_1
                  try clear hx245_2
                  try clear hx245_3
                  try clear p2
                  try clear p245
                  try clear p6
                  try clear q245
                  obtain ⟨kq, x45_11, rfl, HA, HJ11, HO_3, BK241, HB⟩ := hcut
                  cases kq with
                  | zero => exact absurd HA.out (by simp [berthref13_nests.j1])
                  | succ kj11 =>
                    have H := HA.out
                    clear HA
                    simp only [berthref13_nests.j1] at H
                    have HC18 := Aside0.mk H
                    clear H
                    go_upto_if 45 with (fail)
                    go_cut [6] (fun v6 wc => ∃ (kq : Nat) (x6_17 : Int), v6 = .int .i64 x6_17 ∧ Aside0 (berthref13_nests.j2 kq x3_1 x4_1 ((rd_T45 l0_0 x4_1).f0) x6_17 l0_0 = some r) ∧ Aside0 (kq ≤ kj11) ∧ Aside0 (Kd.R (Kd.int .i64) 3 wc w.heap.size (fun _ => True) v243 x3_1) ∧ Aside0 (wc.heap[gb241]? = some (.cells #[(.slice (some ad245) l0_0.length c0_0)] 24 (0, 0))) ∧ Aside0 (Below w.heap.size w wc))
                    case first =>
                      have H := HC18.out
                      clear HC18
                      by_cases c19 : x45_11 = true
                      · subst c19
                        have H1 : (berthref13_nests.j2 kj11 x3_1 x4_1 ((rd_T45 l0_0 x4_1).f0) 1 l0_0) = some r := by rw [if_pos rfl] at H; exact H
                        clear H
                        have H := H1
                        clear H1
                        have H' := Aside0.mk H
                        clear H
                        go_wp2
                        go_meet
                        case rel => exact ⟨_, (1), (by first | rfl | (simp; done) | (simp [*]; done)), H', ⟨by have := HK1.out; have := HJ11.out; first | omega | exact Nat.le_refl _⟩, ⟨by (with_reducible repeat (first | apply Kd.R_alloc | apply Kd.R_drewN | apply Kd.R_drew)); exact HO_3.out⟩, ⟨by (with_reducible repeat (first | refine blk_drewN ?_ _ | refine blk_drew ?_ | refine blk_alloc ?_ _)); exact BK241.out⟩, ⟨by repeat (first | (with_reducible first | exact HB.out | apply below_alloc | apply pw_below_drewN | apply below_drew1 | refine below_set ?_ GE241.out) | exact HB.out)⟩⟩
                      · replace c19 := Bool.eq_false_iff.mpr c19
                        subst c19
                        have H1 : (berthref13_nests.j2 kj11 x3_1 x4_1 ((rd_T45 l0_0 x4_1).f0) 0 l0_0) = some r := by rw [if_neg (show ¬ (false = true) by decide)] at H; exact H
                        clear H
                        have H := H1
                        clear H1
                        have H' := Aside0.mk H
                        clear H
                        go_wp2
                        go_meet
                        case rel => exact ⟨_, (0), (by first | rfl | (simp; done) | (simp [*]; done)), H', ⟨by have := HK1.out; have := HJ11.out; first | omega | exact Nat.le_refl _⟩, ⟨by (with_reducible repeat (first | apply Kd.R_alloc | apply Kd.R_drewN | apply Kd.R_drew)); exact HO_3.out⟩, ⟨by (with_reducible repeat (first | refine blk_drewN ?_ _ | refine blk_drew ?_ | refine blk_alloc ?_ _)); exact BK241.out⟩, ⟨by repeat (first | (with_reducible first | exact HB.out | apply below_alloc | apply pw_below_drewN | apply below_drew1 | refine below_set ?_ GE241.out) | exact HB.out)⟩⟩
                    case rest =>
                      clear HC18
                      try clear c1
                      try clear c2
                      try clear c2b0
                      try clear c2b1
                      try clear p2
                      try clear q2
                      try clear hx2
                      try clear c3
                      try clear c3b0
                      try clear c3b1
                      try clear p6
                      try clear c9
                      try clear c9b0
                      try clear c10
                      try clear c10b0
                      try clear c11
                      try clear c11b0
                      try clear c14
                      try clear c14b0
                      try clear c14b1
                      try clear c15
                      try clear c15b0
                      try clear c15b1
                      try clear c16
                      try clear c16b0
                      try clear c16b1
                      try clear c17
                      try clear c17b0
                      try clear c17b1
                      try clear c19
                      try clear hcz13_0
                      try clear hcz5_0
                      try clear hcz8_0
                      try clear hfz13_0
                      try clear hfz5_0
                      try clear hfz8_0
                      try clear hx245_0
                      try clear hx245_1
                      try clear hx245_2
                      try clear hx245_3
                      try clear p2
                      try clear p245
                      try clear p6
                      try clear q2
                      try clear q245
                      obtain ⟨kq, x6_17, rfl, HA, HJ17, HO_3, BK241, HB⟩ := hcut
                      cases kq with
                      | zero => exact absurd HA.out (by simp [berthref13_nests.j2])
                      | succ kj17 =>
                        have H := HA.out
                        clear HA
                        simp only [berthref13_nests.j2] at H
                        have H' := Aside0.mk H
                        clear H
                        go_wp2
                        go_loopg [7] kj17 (fun kq v7 w' => ∃ (x3_4 : List Int) (x7_4 : Int), v7 = .int .i64 x7_4 ∧ Aside0 (berthref13_nests.l1 kq x3_4 x4_1 ((rd_T45 l0_0 x4_1).f0) x6_17 x7_4 l0_0 = some r) ∧ Aside0 (kq ≤ kj17) ∧ Aside0 (Kd.R (Kd.int .i64) 3 w' w.heap.size (fun _ => True) v243 x3_4) ∧ Aside0 (w'.heap[gb241]? = some (.cells #[(.slice (some ad245) l0_0.length c0_0)] 24 (0, 0))) ∧ Aside0 (Below w.heap.size w w'))
                        case atStart => exact ⟨(x3_1), (0), (by first | rfl | (simp; done) | (simp [*]; done)), H', ⟨Nat.le_refl _⟩, ⟨by (with_reducible repeat (first | apply Kd.R_alloc | apply Kd.R_drewN | apply Kd.R_drew)); exact HO_3.out⟩, ⟨by (with_reducible repeat (first | refine blk_drewN ?_ _ | refine blk_drew ?_ | refine blk_alloc ?_ _)); exact BK241.out⟩, ⟨by repeat (first | (with_reducible first | exact HB.out | apply below_alloc | apply pw_below_drewN | apply below_drew1 | refine below_set ?_ GE241.out) | exact HB.out)⟩⟩
                        case round =>
                          clear H'
                          try clear c1
                          try clear c2
                          try clear c2b0
                          try clear c2b1
                          try clear p2
                          try clear q2
                          try clear hx2
                          try clear c3
                          try clear c3b0
                          try clear c3b1
                          try clear p6
                          try clear c9
                          try clear c9b0
                          try clear c10
                          try clear c10b0
                          try clear c11
                          try clear c11b0
                          try clear c14
                          try clear c14b0
                          try clear c14b1
                          try clear c15
                          try clear c15b0
                          try clear c15b1
                          try clear c16
                          try clear c16b0
                          try clear c16b1
                          try clear c17
                          try clear c17b0
                          try clear c17b1
                          try clear c19
                          try clear hcz13_0
                          try clear hcz5_0
                          try clear hcz8_0
                          try clear hfz13_0
                          try clear hfz5_0
                          try clear hfz8_0
                          try clear hx245_0
                          try clear hx245_1
                          try clear hx245_2
                          try clear hx245_3
                          try clear p2
                          try clear p245
                          try clear p6
                          try clear q2
                          try clear q245
                          obtain ⟨x3_4, x7_4, rfl, HA, HK4, HO_3, BK241, HB⟩ := hrel
                          cases gk with
                          | zero => exact absurd HA.out (by simp [berthref13_nests.l1])
                          | succ k4 =>
                            have H := HA.out
                            clear HA
                            simp only [berthref13_nests.l1] at H
                            by_cases c20 : 0 ≤ x4_1
                            · rw [if_pos c20] at H
                              have c20b0 : decide (0 ≤ x4_1) = true := decide_eq_true c20
                              clear c20
                              by_cases c21 : x4_1 < (l0_0.length : Int)
                              · rw [if_pos c21] at H
                                have c21b0 : decide (x4_1 < (l0_0.length : Int)) = true := decide_eq_true c21
                                clear c21
                                by_cases c22 : x7_4 < (((rd_T45 l0_0 x4_1).f3).length : Int)
                                · rw [if_pos c22] at H
                                  have c22b0 : decide (x7_4 < (((rd_T45 l0_0 x4_1).f3).length : Int)) = true := decide_eq_true c22
                                  clear c22
                                  by_cases c23 : 0 ≤ x7_4
                                  · rw [if_pos c23] at H
                                    have c23b0 : decide (0 ≤ x7_4) = true := decide_eq_true c23
                                    clear c23
                                    by_cases c24 : x4_1 < (x3_4.length : Int)
                                    · rw [if_pos c24] at H
                                      have c24b0 : decide (x4_1 < (x3_4.length : Int)) = true := decide_eq_true c24
                                      clear c24
                                      by_cases c25 : 0 ≤ (rd ((rd_T45 l0_0 x4_1).f3) x7_4)
                                      · rw [if_pos c25] at H
                                        have c25b0 : decide (0 ≤ (rd ((rd_T45 l0_0 x4_1).f3) x7_4)) = true := decide_eq_true c25
                                        clear c25
                                        by_cases c26 : (rd ((rd_T45 l0_0 x4_1).f3) x7_4) < (x3_4.length : Int)
                                        · rw [if_pos c26] at H
                                          have c26b0 : decide ((rd ((rd_T45 l0_0 x4_1).f3) x7_4) < (x3_4.length : Int)) = true := decide_eq_true c26
                                          clear c26
                                          obtain ⟨y250, hy250⟩ : ∃ y_ : List Int, y_ = (x3_4.set ((rd ((rd_T45 l0_0 x4_1).f3) x7_4) : Int).toNat (wrap64 ((rd x3_4 x4_1) + x6_17))) := ⟨_, rfl⟩
                                          replace H : (if (rd ((rd_T45 l0_0 x4_1).f3) x7_4) < (l0_0.length : Int) then ((berthref13_brackets.f k4 ((rd_T45 l0_0 x4_1).f0) ((rd_T45 l0_0 (rd ((rd_T45 l0_0 x4_1).f3) x7_4)).f0)).bind fun t252 => (if t252 = true then (berthref13_nests.l1 k4 (y250.set ((rd ((rd_T45 l0_0 x4_1).f3) x7_4) : Int).toNat (wrap64 ((rd y250 (rd ((rd_T45 l0_0 x4_1).f3) x7_4)) + 1))) x4_1 ((rd_T45 l0_0 x4_1).f0) x6_17 (wrap64 (x7_4 + 1)) l0_0) else (berthref13_nests.l1 k4 y250 x4_1 ((rd_T45 l0_0 x4_1).f0) x6_17 (wrap64 (x7_4 + 1)) l0_0))) else (none)) = some r := by first | (rw [hy250]; with_reducible exact H) | (have H2_ := (Option.bind_some _ _).symm.trans H; rw [hy250]; with_reducible exact H2_) | (have H2_ := (Option.bind_some _ _).symm.trans H; with_reducible exact H2_) | with_reducible exact H | (rw [hy250]; exact H) | exact H
                                          have Ny250 := Aside0.mk hy250
                                          clear hy250
                                          by_cases c28 : (rd ((rd_T45 l0_0 x4_1).f3) x7_4) < (l0_0.length : Int)
                                          · rw [if_pos c28] at H
                                            have c28b0 : decide ((rd ((rd_T45 l0_0 x4_1).f3) x7_4) < (l0_0.length : Int)) = true := decide_eq_true c28
                                            clear c28
                                            replace H := Option.bind_eq_some_iff.mp H
                                            obtain ⟨t252, A290, H⟩ := H
                                            replace H : (if t252 = true then (berthref13_nests.l1 k4 (y250.set ((rd ((rd_T45 l0_0 x4_1).f3) x7_4) : Int).toNat (wrap64 ((rd y250 (rd ((rd_T45 l0_0 x4_1).f3) x7_4)) + 1))) x4_1 ((rd_T45 l0_0 x4_1).f0) x6_17 (wrap64 (x7_4 + 1)) l0_0) else (berthref13_nests.l1 k4 y250 x4_1 ((rd_T45 l0_0 x4_1).f0) x6_17 (wrap64 (x7_4 + 1)) l0_0)) = some r := H
                                            have A29 := Aside0.mk A290
                                            clear A290
                                            by_cases c30 : t252 = true
                                            · subst c30
                                              have H1 : (berthref13_nests.l1 k4 (y250.set ((rd ((rd_T45 l0_0 x4_1).f3) x7_4) : Int).toNat (wrap64 ((rd y250 (rd ((rd_T45 l0_0 x4_1).f3) x7_4)) + 1))) x4_1 ((rd_T45 l0_0 x4_1).f0) x6_17 (wrap64 (x7_4 + 1)) l0_0) = some r := by rw [if_pos rfl] at H; exact H
                                              clear H
                                              have H := H1
                                              clear H1
                                              obtain ⟨y254, hy254⟩ : ∃ y_ : List Int, y_ = (y250.set ((rd ((rd_T45 l0_0 x4_1).f3) x7_4) : Int).toNat (wrap64 ((rd y250 (rd ((rd_T45 l0_0 x4_1).f3) x7_4)) + 1))) := ⟨_, rfl⟩
                                              replace H : (berthref13_nests.l1 k4 y254 x4_1 ((rd_T45 l0_0 x4_1).f0) x6_17 (wrap64 (x7_4 + 1)) l0_0) = some r := by first | (rw [hy254]; with_reducible exact H) | (have H2_ := (Option.bind_some _ _).symm.trans H; rw [hy254]; with_reducible exact H2_) | (have H2_ := (Option.bind_some _ _).symm.trans H; with_reducible exact H2_) | with_reducible exact H | (rw [hy254]; exact H) | exact H
                                              have Ny254 := Aside0.mk hy254
                                              clear hy254
                                              have H' := Aside0.mk H
                                              clear H
                                              have hcz32_0 : wr.cell? ⟨gb241, 0, none⟩ = some (.slice (some ad245) l0_0.length c0_0) := (blk_cell BK241.out 0).trans rfl
                                              have hfz32_0 := blk_frozen BK241.out 0
                                              have p246 : 0 ≤ (x4_1 : Int) := of_decide_eq_true (by first | (with_reducible assumption) | assumption)
                                              have q246 : x4_1 < (l0_0.length : Int) := of_decide_eq_true (by first | (with_reducible assumption) | assumption)
                                              obtain ⟨ad246, A246_3, c246_3, e246, hx246_0, hx246_1, hx246_2, hx246_3, hl246_3, hi246_3⟩ := at_T45 HR0_0.out x4_1 p246 q246
                                              obtain rfl : ad245 = ad246 := (by injection e246)
                                              replace hx246_0 := (HB.out.cell (World.block_lt_of_cell? w _ hx246_0)).trans hx246_0
                                              replace hx246_1 := (HB.out.cell (World.block_lt_of_cell? w _ hx246_1)).trans hx246_1
                                              replace hx246_2 := (HB.out.cell (World.block_lt_of_cell? w _ hx246_2)).trans hx246_2
                                              replace hx246_3 := (HB.out.cell (World.block_lt_of_cell? w _ hx246_3)).trans hx246_3
                                              have HR246_3 := Aside0.mk hi246_3
                                              have HC246_3 := Aside0.mk hl246_3
                                              clear hi246_3 hl246_3
                                              replace p246 := eq_true p246
                                              replace q246 := eq_true q246
                                              have p247 : 0 ≤ (x4_1 : Int) := of_decide_eq_true (by first | (with_reducible assumption) | assumption)
                                              have q247 : x4_1 < (l0_0.length : Int) := of_decide_eq_true (by first | (with_reducible assumption) | assumption)
                                              obtain ⟨ad247, A247_3, c247_3, e247, hx247_0, hx247_1, hx247_2, hx247_3, hl247_3, hi247_3⟩ := at_T45 HR0_0.out x4_1 p247 q247
                                              obtain rfl : ad245 = ad247 := (by injection e247)
                                              replace hx247_0 := (HB.out.cell (World.block_lt_of_cell? w _ hx247_0)).trans hx247_0
                                              replace hx247_1 := (HB.out.cell (World.block_lt_of_cell? w _ hx247_1)).trans hx247_1
                                              replace hx247_2 := (HB.out.cell (World.block_lt_of_cell? w _ hx247_2)).trans hx247_2
                                              replace hx247_3 := (HB.out.cell (World.block_lt_of_cell? w _ hx247_3)).trans hx247_3
                                              have HR247_3 := Aside0.mk hi247_3
                                              have HC247_3 := Aside0.mk hl247_3
                                              clear hi247_3 hl247_3
                                              replace p247 := eq_true p247
                                              replace q247 := eq_true q247
                                              have ea_ := Option.some.inj (hx246_3.symm.trans hx247_3)
                                              injection ea_ with ea_ en_ ec_
                                              subst ea_
                                              subst ec_
                                              clear en_
                                              have p248 : 0 ≤ (x7_4 : Int) := of_decide_eq_true (by first | (with_reducible assumption) | assumption)
                                              have q248 : x7_4 < (((rd_T45 l0_0 x4_1).f3).length : Int) := of_decide_eq_true (by first | (with_reducible assumption) | assumption)
                                              obtain ⟨ad248, e248, hx248_0⟩ := Kd.at_int HR247_3.out x7_4 p248 q248
                                              cases e248
                                              replace hx248_0 := (HB.out.cell (World.block_lt_of_cell? w _ hx248_0)).trans hx248_0
                                              replace p248 := eq_true p248
                                              replace q248 := eq_true q248
                                              obtain ⟨Ao33, co33, eo33⟩ := Kd.R_slice HO_3.out
                                              subst eo33
                                              have p249 : 0 ≤ (x4_1 : Int) := of_decide_eq_true (by first | (with_reducible assumption) | assumption)
                                              have q249 : x4_1 < (x3_4.length : Int) := of_decide_eq_true (by first | (with_reducible assumption) | assumption)
                                              obtain ⟨ad249, e249, hx249_0⟩ := Kd.at_int (Kd.R_reads' HO_3.out).2.2 x4_1 p249 q249
                                              cases e249
                                              replace p249 := eq_true p249
                                              replace q249 := eq_true q249
                                              have p27 : 0 ≤ ((rd ((rd_T45 l0_0 x4_1).f3) x7_4) : Int) := of_decide_eq_true (by first | (with_reducible assumption) | assumption)
                                              have q27 : ((rd ((rd_T45 l0_0 x4_1).f3) x7_4) : Int) < ((x3_4.length : Int) : Int) := of_decide_eq_true (by first | (with_reducible assumption) | assumption)
                                              obtain ⟨go27, co27, eo27, gb27, gl27, cl27, HG27⟩ := Kd.R_form HO_3.out (by omega)
                                              (first | cases eo27 | (injection eo27 with ea_ en_ ec_; (first | subst ea_ | (injection ea_ with ea_; subst ea_)); subst ec_; clear en_))
                                              have GB27 := Aside0.mk gb27
                                              have GG27 := Aside0.mk HG27
                                              clear gb27 gl27 HG27
                                              (first | simp only [add_plain] at hx249_0 | skip)
                                              obtain ⟨hx27_0, hf27_0⟩ := Kd.R_celln 0 HO_3.out ((rd ((rd_T45 l0_0 x4_1).f3) x7_4) : Int) p27 q27
                                              replace p27 := eq_true p27
                                              replace q27 := eq_true q27
                                              have HP34 := Kd.R_putg HO_3.out ((rd ((rd_T45 l0_0 x4_1).f3) x7_4) : Int) (wrap64 ((rd x3_4 x4_1) + x6_17))
                                              go_wp2_with (first | ((with_reducible refine gate_store (t := 3) (p := 74) rfl ?_); refine store_event (t := 3) (p := 74) (v := ?vo_w35) (w1 := (wr.setCell ⟨go27, ((rd ((rd_T45 l0_0 x4_1).f3) x7_4) : Int).toNat, none⟩ (.int .i64 (wrap64 ((rd x3_4 x4_1) + x6_17))))) ?hg ?ho ?hn ?hr ?_; (case ho => rfl); (case hg => rfl); (case hn => rfl); (case hr => first | (go_simp; done) | (go_simp; rfl)); intro w35 hw; have hg : wr.grownBy w35 (some go27) := (by rw [hw]; exact HP34.2); have hp_ : Kd.R (Kd.int .i64) 3 w35 w.heap.size (fun _ => True) (.slice (some ⟨go27, 0, none⟩) x3_4.length co33) y250 := (by rw [hw, Ny250.out]; exact HP34.1); clear HP34; have n0_ := Aside0.mk (hp_); have n1_ := Aside0.mk (blk_grown (g := gb241) (o := .cells #[.slice (some ad245) l0_0.length c0_0] 24 (0, 0)) (by (with_reducible repeat (first | refine blk_drewN ?_ _ | refine blk_drew ?_ | refine blk_alloc ?_ _)); exact BK241.out) hg (Kd.R_ne HO_3.out BK241.out (by decide))); have n2_ := Aside0.mk ((by rw [hw]; exact below_set (HB.out) GB27.out : Below w.heap.size w w35)); clear HO_3; clear BK241; clear HB; have HO_3 := n0_; have BK241 := n1_; have HB := n2_; clear n0_ n1_ n2_; clear hg hw hp_; have hcz36_0 : w35.cell? ⟨gb241, 0, none⟩ = some (.slice (some ad245) l0_0.length c0_0) := (blk_cell BK241.out 0).trans rfl; have hfz36_0 := blk_frozen BK241.out 0; have p251 : 0 ≤ ((rd ((rd_T45 l0_0 x4_1).f3) x7_4) : Int) := of_decide_eq_true (by first | (with_reducible assumption) | assumption); have q251 : (rd ((rd_T45 l0_0 x4_1).f3) x7_4) < (l0_0.length : Int) := of_decide_eq_true (by first | (with_reducible assumption) | assumption); obtain ⟨ad251, A251_3, c251_3, e251, hx251_0, hx251_1, hx251_2, hx251_3, hl251_3, hi251_3⟩ := at_T45 HR0_0.out (rd ((rd_T45 l0_0 x4_1).f3) x7_4) p251 q251; obtain rfl : ad245 = ad251 := (by injection e251); replace hx251_0 := (HB.out.cell (World.block_lt_of_cell? w _ hx251_0)).trans hx251_0; replace hx251_1 := (HB.out.cell (World.block_lt_of_cell? w _ hx251_1)).trans hx251_1; replace hx251_2 := (HB.out.cell (World.block_lt_of_cell? w _ hx251_2)).trans hx251_2; replace hx251_3 := (HB.out.cell (World.block_lt_of_cell? w _ hx251_3)).trans hx251_3; have HR251_3 := Aside0.mk hi251_3; have HC251_3 := Aside0.mk hl251_3; clear hi251_3 hl251_3; replace p251 := eq_true p251; replace q251 := eq_true q251) | ((with_reducible refine gate_callee (f := 32) rfl ?_); refine goesL_ (some 82) rfl rfl Tryd.func32 (by kernel_rfl) rfl #[.int .i64 ((rd_T45 l0_0 x4_1).f0), .int .i64 ((rd_T45 l0_0 (rd ((rd_T45 l0_0 x4_1).f3) x7_4)).f0)] rfl (by (try simp only [List.map_toArray, List.map_cons, List.map_nil]); first | done | rfl | (simp only [List.length_drop, List.length_take]; rfl)) ?_; (with_reducible refine (berthref13_brackets.calls k4 ((rd_T45 l0_0 x4_1).f0) ((rd_T45 l0_0 (rd ((rd_T45 l0_0 x4_1).f3) x7_4)).f0) true _ A29.out).mono ?_); rintro e w' ⟨rfl, ⟨nd, rfl⟩⟩; refine ⟨_, rfl, ?_⟩; (try (rw [drewN_self w35]; generalize hq_ : World.drewN w35 _ = w35; have n0_ : Aside0 (Kd.R (Kd.int .i64) 3 w35 w.heap.size (fun _ => True) (.slice (some ⟨go27, 0, none⟩) x3_4.length co33) y250) := ⟨by rw [← hq_]; exact (by (with_reducible repeat (first | apply Kd.R_alloc | apply Kd.R_drewN | apply Kd.R_drew)); exact HO_3.out)⟩; have n1_ : Aside0 (w35.heap[gb241]? = some (.cells #[.slice (some ad245) l0_0.length c0_0] 24 (0, 0))) := ⟨by rw [← hq_]; exact (by (with_reducible repeat (first | refine blk_drewN ?_ _ | refine blk_drew ?_ | refine blk_alloc ?_ _)); exact BK241.out)⟩; have n2_ : Aside0 (Below w.heap.size w w35) := ⟨by rw [← hq_]; exact (by repeat (first | (with_reducible first | exact HB.out | apply below_alloc | apply pw_below_drewN | apply below_drew1 | refine below_set ?_ GE241.out) | exact HB.out))⟩; clear HO_3 BK241 HB hq_; have HO_3 := n0_; have BK241 := n1_; have HB := n2_; clear n0_ n1_ n2_)); have p253 : 0 ≤ ((rd ((rd_T45 l0_0 x4_1).f3) x7_4) : Int) := of_decide_eq_true (by first | (with_reducible assumption) | assumption); have q253 : (rd ((rd_T45 l0_0 x4_1).f3) x7_4) < (y250.length : Int) := (by have h_ : ((rd ((rd_T45 l0_0 x4_1).f3) x7_4) : Int) < ((x3_4.length : Int) : Int) := of_decide_eq_true (by first | (with_reducible assumption) | assumption); first | (have e_ := (Kd.R_reads' HO_3.out).1; omega) | simpa only [Ny250.out, List.length_set] using h_); have ql253 : (((rd ((rd_T45 l0_0 x4_1).f3) x7_4) : Int) < ((x3_4.length : Int) : Int)) = True := eq_true (of_decide_eq_true (by first | (with_reducible assumption) | assumption)); obtain ⟨ad253, e253, hx253_0⟩ := Kd.at_int (Kd.R_reads' HO_3.out).2.2 (rd ((rd_T45 l0_0 x4_1).f3) x7_4) p253 q253; obtain rfl : (⟨go27, 0, none⟩ : Addr) = ad253 := (by injection e253); (first | simp only [add_plain] at hx253_0 | simp only [add_at] at hx253_0 | simp only [Addr.add, Nat.zero_add] at hx253_0 | skip); replace p253 := eq_true p253; replace q253 := eq_true q253; have p31 : 0 ≤ ((rd ((rd_T45 l0_0 x4_1).f3) x7_4) : Int) := of_decide_eq_true (by first | (with_reducible assumption) | assumption); have q31 : ((rd ((rd_T45 l0_0 x4_1).f3) x7_4) : Int) < ((x3_4.length : Int) : Int) := of_decide_eq_true (by first | (with_reducible assumption) | assumption); obtain ⟨hx31_0, hf31_0⟩ := Kd.R_celln 0 HO_3.out ((rd ((rd_T45 l0_0 x4_1).f3) x7_4) : Int) p31 q31; replace p31 := eq_true p31; replace q31 := eq_true q31; obtain ⟨hy37_, hz37_⟩ := Kd.R_celln 0 HO_3.out ((rd ((rd_T45 l0_0 x4_1).f3) x7_4) : Int) (of_decide_eq_true (by first | (with_reducible assumption) | assumption)) (of_decide_eq_true (by first | (with_reducible assumption) | assumption)); have HP37 := Kd.R_putg HO_3.out ((rd ((rd_T45 l0_0 x4_1).f3) x7_4) : Int) (wrap64 ((rd y250 (rd ((rd_T45 l0_0 x4_1).f3) x7_4)) + 1))) | ((with_reducible refine gate_store (t := 3) (p := 89) rfl ?_); refine store_event (t := 3) (p := 89) (v := ?vo_w38) (w1 := (w35.setCell ⟨go27, ((rd ((rd_T45 l0_0 x4_1).f3) x7_4) : Int).toNat, none⟩ (.int .i64 (wrap64 ((rd y250 (rd ((rd_T45 l0_0 x4_1).f3) x7_4)) + 1))))) ?hg ?ho ?hn ?hr ?_; (case ho => rfl); (case hg => rfl); (case hn => rfl); (case hr => first | (go_simp; done) | (go_simp; rfl)); intro w38 hw; have hg : w35.grownBy w38 (some go27) := (by rw [hw]; exact HP37.2); have hp_ : Kd.R (Kd.int .i64) 3 w38 w.heap.size (fun _ => True) (.slice (some ⟨go27, 0, none⟩) x3_4.length co33) y254 := (by rw [hw, Ny254.out]; exact HP37.1); clear HP37; have n0_ := Aside0.mk (hp_); have n1_ := Aside0.mk (blk_grown (g := gb241) (o := .cells #[.slice (some ad245) l0_0.length c0_0] 24 (0, 0)) (by (with_reducible repeat (first | refine blk_drewN ?_ _ | refine blk_drew ?_ | refine blk_alloc ?_ _)); exact BK241.out) hg (Kd.R_ne HO_3.out BK241.out (by decide))); have n2_ := Aside0.mk ((by rw [hw]; exact below_set (HB.out) GB27.out : Below w.heap.size w w38)); clear HO_3; clear BK241; clear HB; have HO_3 := n0_; have BK241 := n1_; have HB := n2_; clear n0_ n1_ n2_; clear hg hw hp_))
                                              go_roundg k4
                                              case measure => have := HK1.out; have := HJ11.out; have := HJ17.out; have := HK4.out; omega
                                              case rel => exact ⟨(y254), (wrap64 (x7_4 + 1)), (by first | rfl | (simp; done) | (simp [*]; done)), H', ⟨by have := HK1.out; have := HJ11.out; have := HJ17.out; have := HK4.out; omega⟩, ⟨by (with_reducible repeat (first | apply Kd.R_alloc | apply Kd.R_drewN | apply Kd.R_drew)); exact HO_3.out⟩, ⟨by (with_reducible repeat (first | refine blk_drewN ?_ _ | refine blk_drew ?_ | refine blk_alloc ?_ _)); exact BK241.out⟩, ⟨by repeat (first | (with_reducible first | exact HB.out | apply below_alloc | apply pw_below_drewN | apply below_drew1 | refine below_set ?_ GE241.out) | exact HB.out)⟩⟩
                                            · replace c30 := Bool.eq_false_iff.mpr c30
                                              subst c30
                                              have H1 : (berthref13_nests.l1 k4 y250 x4_1 ((rd_T45 l0_0 x4_1).f0) x6_17 (wrap64 (x7_4 + 1)) l0_0) = some r := by rw [if_neg (show ¬ (false = true) by decide)] at H; exact H
                                              clear H
                                              have H := H1
                                              clear H1
                                              have H' := Aside0.mk H
                                              clear H
                                              have hcz39_0 : wr.cell? ⟨gb241, 0, none⟩ = some (.slice (some ad245) l0_0.length c0_0) := (blk_cell BK241.out 0).trans rfl
                                              have hfz39_0 := blk_frozen BK241.out 0
                                              have p246 : 0 ≤ (x4_1 : Int) := of_decide_eq_true (by first | (with_reducible assumption) | assumption)
                                              have q246 : x4_1 < (l0_0.length : Int) := of_decide_eq_true (by first | (with_reducible assumption) | assumption)
                                              obtain ⟨ad246, A246_3, c246_3, e246, hx246_0, hx246_1, hx246_2, hx246_3, hl246_3, hi246_3⟩ := at_T45 HR0_0.out x4_1 p246 q246
                                              obtain rfl : ad245 = ad246 := (by injection e246)
                                              replace hx246_0 := (HB.out.cell (World.block_lt_of_cell? w _ hx246_0)).trans hx246_0
                                              replace hx246_1 := (HB.out.cell (World.block_lt_of_cell? w _ hx246_1)).trans hx246_1
                                              replace hx246_2 := (HB.out.cell (World.block_lt_of_cell? w _ hx246_2)).trans hx246_2
                                              replace hx246_3 := (HB.out.cell (World.block_lt_of_cell? w _ hx246_3)).trans hx246_3
                                              have HR246_3 := Aside0.mk hi246_3
                                              have HC246_3 := Aside0.mk hl246_3
                                              clear hi246_3 hl246_3
                                              replace p246 := eq_true p246
                                              replace q246 := eq_true q246
                                              have p247 : 0 ≤ (x4_1 : Int) := of_decide_eq_true (by first | (with_reducible assumption) | assumption)
                                              have q247 : x4_1 < (l0_0.length : Int) := of_decide_eq_true (by first | (with_reducible assumption) | assumption)
                                              obtain ⟨ad247, A247_3, c247_3, e247, hx247_0, hx247_1, hx247_2, hx247_3, hl247_3, hi247_3⟩ := at_T45 HR0_0.out x4_1 p247 q247
                                              obtain rfl : ad245 = ad247 := (by injection e247)
                                              replace hx247_0 := (HB.out.cell (World.block_lt_of_cell? w _ hx247_0)).trans hx247_0
                                              replace hx247_1 := (HB.out.cell (World.block_lt_of_cell? w _ hx247_1)).trans hx247_1
                                              replace hx247_2 := (HB.out.cell (World.block_lt_of_cell? w _ hx247_2)).trans hx247_2
                                              replace hx247_3 := (HB.out.cell (World.block_lt_of_cell? w _ hx247_3)).trans hx247_3
                                              have HR247_3 := Aside0.mk hi247_3
                                              have HC247_3 := Aside0.mk hl247_3
                                              clear hi247_3 hl247_3
                                              replace p247 := eq_true p247
                                              replace q247 := eq_true q247
                                              have ea_ := Option.some.inj (hx246_3.symm.trans hx247_3)
                                              injection ea_ with ea_ en_ ec_
                                              subst ea_
                                              subst ec_
                                              clear en_
                                              have p248 : 0 ≤ (x7_4 : Int) := of_decide_eq_true (by first | (with_reducible assumption) | assumption)
                                              have q248 : x7_4 < (((rd_T45 l0_0 x4_1).f3).length : Int) := of_decide_eq_true (by first | (with_reducible assumption) | assumption)
                                              obtain ⟨ad248, e248, hx248_0⟩ := Kd.at_int HR247_3.out x7_4 p248 q248
                                              cases e248
                                              replace hx248_0 := (HB.out.cell (World.block_lt_of_cell? w _ hx248_0)).trans hx248_0
                                              replace p248 := eq_true p248
                                              replace q248 := eq_true q248
                                              obtain ⟨Ao40, co40, eo40⟩ := Kd.R_slice HO_3.out
                                              subst eo40
                                              have p249 : 0 ≤ (x4_1 : Int) := of_decide_eq_true (by first | (with_reducible assumption) | assumption)
                                              have q249 : x4_1 < (x3_4.length : Int) := of_decide_eq_true (by first | (with_reducible assumption) | assumption)
                                              obtain ⟨ad249, e249, hx249_0⟩ := Kd.at_int (Kd.R_reads' HO_3.out).2.2 x4_1 p249 q249
                                              cases e249
                                              replace p249 := eq_true p249
                                              replace q249 := eq_true q249
                                              have p27 : 0 ≤ ((rd ((rd_T45 l0_0 x4_1).f3) x7_4) : Int) := of_decide_eq_true (by first | (with_reducible assumption) | assumption)
                                              have q27 : ((rd ((rd_T45 l0_0 x4_1).f3) x7_4) : Int) < ((x3_4.length : Int) : Int) := of_decide_eq_true (by first | (with_reducible assumption) | assumption)
                                              obtain ⟨go27, co27, eo27, gb27, gl27, cl27, HG27⟩ := Kd.R_form HO_3.out (by omega)
                                              (first | cases eo27 | (injection eo27 with ea_ en_ ec_; (first | subst ea_ | (injection ea_ with ea_; subst ea_)); subst ec_; clear en_))
                                              have GB27 := Aside0.mk gb27
                                              have GG27 := Aside0.mk HG27
                                              clear gb27 gl27 HG27
                                              (first | simp only [add_plain] at hx249_0 | skip)
                                              obtain ⟨hx27_0, hf27_0⟩ := Kd.R_celln 0 HO_3.out ((rd ((rd_T45 l0_0 x4_1).f3) x7_4) : Int) p27 q27
                                              replace p27 := eq_true p27
                                              replace q27 := eq_true q27
                                              have HP41 := Kd.R_putg HO_3.out ((rd ((rd_T45 l0_0 x4_1).f3) x7_4) : Int) (wrap64 ((rd x3_4 x4_1) + x6_17))
                                              go_wp2_with (first | ((with_reducible refine gate_store (t := 3) (p := 74) rfl ?_); refine store_event (t := 3) (p := 74) (v := ?vo_w42) (w1 := (wr.setCell ⟨go27, ((rd ((rd_T45 l0_0 x4_1).f3) x7_4) : Int).toNat, none⟩ (.int .i64 (wrap64 ((rd x3_4 x4_1) + x6_17))))) ?hg ?ho ?hn ?hr ?_; (case ho => rfl); (case hg => rfl); (case hn => rfl); (case hr => first | (go_simp; done) | (go_simp; rfl)); intro w42 hw; have hg : wr.grownBy w42 (some go27) := (by rw [hw]; exact HP41.2); have hp_ : Kd.R (Kd.int .i64) 3 w42 w.heap.size (fun _ => True) (.slice (some ⟨go27, 0, none⟩) x3_4.length co40) y250 := (by rw [hw, Ny250.out]; exact HP41.1); clear HP41; have n0_ := Aside0.mk (hp_); have n1_ := Aside0.mk (blk_grown (g := gb241) (o := .cells #[.slice (some ad245) l0_0.length c0_0] 24 (0, 0)) (by (with_reducible repeat (first | refine blk_drewN ?_ _ | refine blk_drew ?_ | refine blk_alloc ?_ _)); exact BK241.out) hg (Kd.R_ne HO_3.out BK241.out (by decide))); have n2_ := Aside0.mk ((by rw [hw]; exact below_set (HB.out) GB27.out : Below w.heap.size w w42)); clear HO_3; clear BK241; clear HB; have HO_3 := n0_; have BK241 := n1_; have HB := n2_; clear n0_ n1_ n2_; clear hg hw hp_; have hcz43_0 : w42.cell? ⟨gb241, 0, none⟩ = some (.slice (some ad245) l0_0.length c0_0) := (blk_cell BK241.out 0).trans rfl; have hfz43_0 := blk_frozen BK241.out 0; have p251 : 0 ≤ ((rd ((rd_T45 l0_0 x4_1).f3) x7_4) : Int) := of_decide_eq_true (by first | (with_reducible assumption) | assumption); have q251 : (rd ((rd_T45 l0_0 x4_1).f3) x7_4) < (l0_0.length : Int) := of_decide_eq_true (by first | (with_reducible assumption) | assumption); obtain ⟨ad251, A251_3, c251_3, e251, hx251_0, hx251_1, hx251_2, hx251_3, hl251_3, hi251_3⟩ := at_T45 HR0_0.out (rd ((rd_T45 l0_0 x4_1).f3) x7_4) p251 q251; obtain rfl : ad245 = ad251 := (by injection e251); replace hx251_0 := (HB.out.cell (World.block_lt_of_cell? w _ hx251_0)).trans hx251_0; replace hx251_1 := (HB.out.cell (World.block_lt_of_cell? w _ hx251_1)).trans hx251_1; replace hx251_2 := (HB.out.cell (World.block_lt_of_cell? w _ hx251_2)).trans hx251_2; replace hx251_3 := (HB.out.cell (World.block_lt_of_cell? w _ hx251_3)).trans hx251_3; have HR251_3 := Aside0.mk hi251_3; have HC251_3 := Aside0.mk hl251_3; clear hi251_3 hl251_3; replace p251 := eq_true p251; replace q251 := eq_true q251) | ((with_reducible refine gate_callee (f := 32) rfl ?_); refine goesL_ (some 82) rfl rfl Tryd.func32 (by kernel_rfl) rfl #[.int .i64 ((rd_T45 l0_0 x4_1).f0), .int .i64 ((rd_T45 l0_0 (rd ((rd_T45 l0_0 x4_1).f3) x7_4)).f0)] rfl (by (try simp only [List.map_toArray, List.map_cons, List.map_nil]); first | done | rfl | (simp only [List.length_drop, List.length_take]; rfl)) ?_; (with_reducible refine (berthref13_brackets.calls k4 ((rd_T45 l0_0 x4_1).f0) ((rd_T45 l0_0 (rd ((rd_T45 l0_0 x4_1).f3) x7_4)).f0) false _ A29.out).mono ?_); rintro e w' ⟨rfl, ⟨nd, rfl⟩⟩; refine ⟨_, rfl, ?_⟩))
                                              go_roundg k4
                                              case measure => have := HK1.out; have := HJ11.out; have := HJ17.out; have := HK4.out; omega
                                              case rel => exact ⟨(y250), (wrap64 (x7_4 + 1)), (by first | rfl | (simp; done) | (simp [*]; done)), H', ⟨by have := HK1.out; have := HJ11.out; have := HJ17.out; have := HK4.out; omega⟩, ⟨by (with_reducible repeat (first | apply Kd.R_alloc | apply Kd.R_drewN | apply Kd.R_drew)); exact HO_3.out⟩, ⟨by (with_reducible repeat (first | refine blk_drewN ?_ _ | refine blk_drew ?_ | refine blk_alloc ?_ _)); exact BK241.out⟩, ⟨by repeat (first | (with_reducible first | exact HB.out | apply below_alloc | apply pw_below_drewN | apply below_drew1 | refine below_set ?_ GE241.out) | exact HB.out)⟩⟩
                                          · rw [if_neg c28] at H
                                            exact absurd H (by simp)
                                        · rw [if_neg c26] at H
                                          exact absurd H (by simp)
                                      · rw [if_neg c25] at H
                                        exact absurd H (by simp)
                                    · rw [if_neg c24] at H
                                      exact absurd H (by simp)
                                  · rw [if_neg c23] at H
                                    exact absurd H (by simp)
                                · rw [if_neg c22] at H
                                  have c22b0 : decide (x7_4 < (((rd_T45 l0_0 x4_1).f3).length : Int)) = false := decide_eq_false c22
                                  clear c22
                                  have H' := Aside0.mk H
                                  clear H
                                  have hcz44_0 : wr.cell? ⟨gb241, 0, none⟩ = some (.slice (some ad245) l0_0.length c0_0) := (blk_cell BK241.out 0).trans rfl
                                  have hfz44_0 := blk_frozen BK241.out 0
                                  have p246 : 0 ≤ (x4_1 : Int) := of_decide_eq_true (by first | (with_reducible assumption) | assumption)
                                  have q246 : x4_1 < (l0_0.length : Int) := of_decide_eq_true (by first | (with_reducible assumption) | assumption)
                                  obtain ⟨ad246, A246_3, c246_3, e246, hx246_0, hx246_1, hx246_2, hx246_3, hl246_3, hi246_3⟩ := at_T45 HR0_0.out x4_1 p246 q246
                                  obtain rfl : ad245 = ad246 := (by injection e246)
                                  replace hx246_0 := (HB.out.cell (World.block_lt_of_cell? w _ hx246_0)).trans hx246_0
                                  replace hx246_1 := (HB.out.cell (World.block_lt_of_cell? w _ hx246_1)).trans hx246_1
                                  replace hx246_2 := (HB.out.cell (World.block_lt_of_cell? w _ hx246_2)).trans hx246_2
                                  replace hx246_3 := (HB.out.cell (World.block_lt_of_cell? w _ hx246_3)).trans hx246_3
                                  have HR246_3 := Aside0.mk hi246_3
                                  have HC246_3 := Aside0.mk hl246_3
                                  clear hi246_3 hl246_3
                                  replace p246 := eq_true p246
                                  replace q246 := eq_true q246
                                  go_wp2
                                  go_roundg k4
                                  case measure => have := HK1.out; have := HJ11.out; have := HJ17.out; have := HK4.out; omega
                                  case rel => exact ⟨(x3_4), (wrap64 (x4_1 - 1)), (by first | rfl | (simp; done) | (simp [*]; done)), H', ⟨by have := HK1.out; have := HJ11.out; have := HJ17.out; have := HK4.out; omega⟩, ⟨by (with_reducible repeat (first | apply Kd.R_alloc | apply Kd.R_drewN | apply Kd.R_drew)); exact HO_3.out⟩, ⟨by (with_reducible repeat (first | refine blk_drewN ?_ _ | refine blk_drew ?_ | refine blk_alloc ?_ _)); exact BK241.out⟩, ⟨by repeat (first | (with_reducible first | exact HB.out | apply below_alloc | apply pw_below_drewN | apply below_drew1 | refine below_set ?_ GE241.out) | exact HB.out)⟩⟩
                              · rw [if_neg c21] at H
                                exact absurd H (by simp)
                            · rw [if_neg c20] at H
                              exact absurd H (by simp)
              · rw [if_neg c11] at H
                exact absurd H (by simp)
            · rw [if_neg c10] at H
              exact absurd H (by simp)
          · rw [if_neg c9] at H
            have c9b0 : decide (0 ≤ x4_1) = false := decide_eq_false c9
            clear c9
            obtain rfl := Option.some.inj H
            go_wp2
            go_ret
            exact ⟨_, by first | rfl | (simp [errW_none, errW_some] <;> rfl) | (simp [*, errW_none, errW_some] <;> rfl), by (with_reducible repeat (first | apply Kd.R_alloc | apply Kd.R_drewN | apply Kd.R_drew)); exact HO_3.out, by repeat (first | (with_reducible first | exact HB.out | apply below_alloc | apply pw_below_drewN | apply below_drew1 | refine below_set ?_ GE241.out) | exact HB.out)⟩
    · rw [if_neg c3] at H
      exact absurd H (by simp)
  · rw [if_neg c2] at H
    exact absurd H (by simp)

/-! ### berthref13_Valid: function 9 -/
def berthref13_Valid.l0 : Nat → List Int → Int → Option (Int × Int)
  | 0, _, _ => none
  | k + 1, x6, x7 => if x7 < (x6.length : Int) then (if 0 ≤ x7 then (if (rd x6 x7) > 32 then (some (122, x7)) else (berthref13_Valid.l0 k x6 (wrap64 (x7 + 1)))) else (none)) else (some (0, 0))
def berthref13_Valid.f (k : Nat) (l0_0 : List (S45)) : Option (Int × Int) := (berthref13_form.f k l0_0).bind fun bt256 => (if bt256.1 = 0 then ((berthref13_nests.f k l0_0).bind fun t258 => (berthref13_Valid.l0 k t258 0)) else (some (bt256.1, bt256.2)))
theorem berthref13_Valid.mono_l : ∀ k, (∀ y0 y1, LeO (berthref13_Valid.l0 k y0 y1) (berthref13_Valid.l0 (k + 1) y0 y1))
  | 0 => fun _ _ r h => by simp [berthref13_Valid.l0] at h
  | k + 1 => by
    have ih0 := berthref13_Valid.mono_l k
    · intro y0 y1
      unfold berthref13_Valid.l0
      repeat' first
      | (with_reducible exact ih0 _ _)
      | (with_reducible exact berthref13_form.mono _ _)
      | (with_reducible exact berthref13_nests.mono _ _)
      | (with_reducible exact LeO.refl _)
      | (with_reducible exact LeO.none _)
      | (with_reducible refine LeO.ite ?_ ?_)
      | (with_reducible refine LeO.bind ?_ (fun _ => ?_))
      | exact ih0 _ _
      | exact berthref13_form.mono _ _
      | exact berthref13_nests.mono _ _
      | exact LeO.none _
      | refine LeO.ite ?_ ?_
      | refine LeO.bind ?_ (fun _ => ?_)
theorem berthref13_Valid.mono : ∀ a0 k, LeO (berthref13_Valid.f k a0) (berthref13_Valid.f (k + 1) a0) := by
  intro a0 k
  have ih0 := berthref13_Valid.mono_l k
  unfold berthref13_Valid.f
  repeat' first
      | (with_reducible exact ih0 _ _)
      | (with_reducible exact berthref13_form.mono _ _)
      | (with_reducible exact berthref13_nests.mono _ _)
      | (with_reducible exact LeO.refl _)
      | (with_reducible exact LeO.none _)
      | (with_reducible refine LeO.ite ?_ ?_)
      | (with_reducible refine LeO.bind ?_ (fun _ => ?_))
      | exact ih0 _ _
      | exact berthref13_form.mono _ _
      | exact berthref13_nests.mono _ _
      | exact LeO.none _
      | refine LeO.ite ?_ ?_
      | refine LeO.bind ?_ (fun _ => ?_)
set_option maxHeartbeats 8000000 in
set_option maxRecDepth 100000 in
theorem berthref13_Valid.calls (k : Nat) (A0_0 : Option Addr) (c0_0 : Nat) (l0_0 : List (S45)) (r1 : Int) (r2 : Int) (w : World) (hr0_0 : Kd.C k45 w A0_0 l0_0.length l0_0) (hc0_0 : l0_0.length ≤ c0_0) (h : berthref13_Valid.f k l0_0 = some (r1, r2)) :
    Calls Tryd.prog 9 #[.agg #[.slice A0_0 l0_0.length c0_0]] w fun e w' => e = .returned (.tuple #[.int .i64 r1, .int .i64 r2]) ∧ Below w.heap.size w w' := by
  have hu24 := Tryd.underlying24
  have HR0_0 := Aside0.mk hr0_0
  have HC0_0 := Aside0.mk hc0_0
  clear hr0_0 hc0_0
  have HB := Aside0.mk (Below.refl w.heap.size w)
  have H : ((berthref13_form.f k l0_0).bind fun bt256 => (if bt256.1 = 0 then ((berthref13_nests.f k l0_0).bind fun t258 => (berthref13_Valid.l0 k t258 0)) else (some (bt256.1, bt256.2)))) = some (r1, r2) := h
  clear h
  replace H := Option.bind_eq_some_iff.mp H
  obtain ⟨⟨t256, t257⟩, A20, H⟩ := H
  replace H : (if t256 = 0 then ((berthref13_nests.f k l0_0).bind fun t258 => (berthref13_Valid.l0 k t258 0)) else (some (t256, t257))) = some (r1, r2) := H
  have A2 := Aside0.mk A20
  clear A20
  by_cases c3 : t256 = 0
  · rw [if_pos c3] at H
    have c3b0 : (t256 == 0) = true := beq_iff_eq.mpr c3
    have c3b1 : (t256 != 0) = false := bne_eq_false_iff_eq.mpr c3
    clear c3
    replace H := Option.bind_eq_some_iff.mp H
    obtain ⟨t258, A40, H⟩ := H
    replace H : (berthref13_Valid.l0 k t258 0) = some (r1, r2) := H
    have A4 := Aside0.mk A40
    clear A40
    have H' := Aside0.mk H
    clear H
    go_enter Tryd.func9, Tryd.ntmps9
    go_wp2_with (first | ((with_reducible refine gate_dst (N := 1) rfl ?_); refine box_event ?hg (N := 1) ?hd (cs := #[.slice A0_0 l0_0.length c0_0]) (t := 24) ?hr ?_; (case hd => rfl); (case hg => rfl); (case hr => first | (go_simp; done) | (go_simp; rfl)); intro gb255 hg w5 hbox hb; have n0_ := Aside0.mk (below_step (by repeat (first | (with_reducible first | exact HB.out | apply below_alloc | apply pw_below_drewN | apply below_drew1) | exact HB.out)) hb); have n1_ := Aside0.mk (hbox); have n2_ := Aside0.mk ((by rw [hg]; exact (below_size (by repeat (first | (with_reducible first | exact HB.out | apply below_alloc | apply pw_below_drewN | apply below_drew1) | exact HB.out))) : w.heap.size ≤ gb255)); have n3_ := Aside0.mk ((by rw [hg]; exact (below_size (by repeat (first | (with_reducible first | exact HB.out | apply below_alloc | apply pw_below_drewN | apply below_drew1) | exact HB.out))) : w.heap.size ≤ gb255)); clear HB; have HB := n0_; have BK255 := n1_; have GW255 := n2_; have GE255 := n3_; clear n0_ n1_ n2_ n3_; clear hb hbox hg; have hcz6_0 : w5.cell? ⟨gb255, 0, none⟩ = some (.slice A0_0 l0_0.length c0_0) := (blk_cell BK255.out 0).trans rfl; have hfz6_0 := blk_frozen BK255.out 0) | ((with_reducible refine gate_callee (f := 20) rfl ?_); refine goesL_ (some 10) rfl rfl Tryd.func20 (by kernel_rfl) rfl #[.agg #[.slice A0_0 l0_0.length c0_0]] rfl (by (try simp only [List.map_toArray, List.map_cons, List.map_nil]); first | done | rfl | (simp only [List.length_drop, List.length_take]; rfl)) ?_; (with_reducible refine (berthref13_form.calls k _ _ l0_0 t256 t257 _ ?side1 ?side2 A2.out).mono ?_); (case side1 => repeat (first | exact (Kd.C_below HR0_0.out HB.out) | (with_reducible refine Kd.C_alloc ?_ _) | (with_reducible refine Kd.C_drewN ?_ _) | (with_reducible refine Kd.C_drew ?_))); (case side2 => exact HC0_0.out); rintro e w7 ⟨rfl, hb⟩; refine ⟨_, rfl, ?_⟩; have n0_ := Aside0.mk (blk_below (g := gb255) (o := .cells #[.slice A0_0 l0_0.length c0_0] 24 (0, 0)) (by (with_reducible repeat (first | refine blk_drewN ?_ _ | refine blk_drew ?_ | refine blk_alloc ?_ _)); exact BK255.out) hb); have n1_ := Aside0.mk (below_step (by repeat (first | (with_reducible first | exact HB.out | apply below_alloc | apply pw_below_drewN | apply below_drew1 | refine below_set ?_ GE255.out) | exact HB.out)) hb); clear BK255; clear HB; have BK255 := n0_; have HB := n1_; clear n0_ n1_; (try clear hb); (try clear hb2); (try clear hk); (try clear hi); have hcz8_0 : w7.cell? ⟨gb255, 0, none⟩ = some (.slice A0_0 l0_0.length c0_0) := (blk_cell BK255.out 0).trans rfl; have hfz8_0 := blk_frozen BK255.out 0) | ((with_reducible refine gate_callee (f := 21) rfl ?_); refine goesL_ (some 18) rfl rfl Tryd.func21 (by kernel_rfl) rfl #[.agg #[.slice A0_0 l0_0.length c0_0]] rfl (by (try simp only [List.map_toArray, List.map_cons, List.map_nil]); first | done | rfl | (simp only [List.length_drop, List.length_take]; rfl)) ?_; (with_reducible refine (berthref13_nests.calls k _ _ l0_0 t258 _ ?side1 ?side2 A4.out).mono ?_); (case side1 => repeat (first | exact (Kd.C_below HR0_0.out HB.out) | (with_reducible refine Kd.C_alloc ?_ _) | (with_reducible refine Kd.C_drewN ?_ _) | (with_reducible refine Kd.C_drew ?_))); (case side2 => exact HC0_0.out); rintro e w9 ⟨v259, rfl, ho0, hb⟩; refine ⟨_, rfl, ?_⟩; have n0_ := Aside0.mk (Kd.R_lower ho0 (below_size (by repeat (first | (with_reducible first | exact HB.out | apply below_alloc | apply pw_below_drewN | apply below_drew1 | refine below_set ?_ GE255.out) | exact HB.out)))); have n1_ := Aside0.mk (blk_below (g := gb255) (o := .cells #[.slice A0_0 l0_0.length c0_0] 24 (0, 0)) (by (with_reducible repeat (first | refine blk_drewN ?_ _ | refine blk_drew ?_ | refine blk_alloc ?_ _)); exact BK255.out) hb); have n2_ := Aside0.mk (below_step (by repeat (first | (with_reducible first | exact HB.out | apply below_alloc | apply pw_below_drewN | apply below_drew1 | refine below_set ?_ GE255.out) | exact HB.out)) hb); clear BK255; clear HB; have HO260 := n0_; have BK255 := n1_; have HB := n2_; clear n0_ n1_ n2_; (try clear hb); (try clear hb2); (try clear hk); (try clear hi); (try clear ho0)))
    go_loopg [7] k (fun kq v7 w' => ∃ (x7_1 : Int), v7 = .int .i64 x7_1 ∧ Aside0 (berthref13_Valid.l0 kq t258 x7_1 = some (r1, r2)) ∧ Aside0 (kq ≤ k) ∧ Aside0 (Kd.R (Kd.int .i64) 3 w' w.heap.size (fun _ => True) v259 t258) ∧ Aside0 (w'.heap[gb255]? = some (.cells #[(.slice A0_0 l0_0.length c0_0)] 24 (0, 0))) ∧ Aside0 (Below w.heap.size w w'))
    case atStart => exact ⟨(0), (by first | rfl | (simp; done) | (simp [*]; done)), H', ⟨Nat.le_refl _⟩, ⟨by (with_reducible repeat (first | apply Kd.R_alloc | apply Kd.R_drewN | apply Kd.R_drew)); exact HO260.out⟩, ⟨by (with_reducible repeat (first | refine blk_drewN ?_ _ | refine blk_drew ?_ | refine blk_alloc ?_ _)); exact BK255.out⟩, ⟨by repeat (first | (with_reducible first | exact HB.out | apply below_alloc | apply pw_below_drewN | apply below_drew1 | refine below_set ?_ GE255.out) | exact HB.out)⟩⟩
    case round =>
      clear H'
      try clear c2
      try clear p2
      try clear c3
      try clear c3b0
      try clear c3b1
      try clear c9
      try clear hcz6_0
      try clear hcz8_0
      try clear hfz6_0
      try clear hfz8_0
      obtain ⟨x7_1, rfl, HA, HK1, HO_6, BK255, HB⟩ := hrel
      cases gk with
      | zero => exact absurd HA.out (by simp [berthref13_Valid.l0])
      | succ k1 =>
        have H := HA.out
        clear HA
        simp only [berthref13_Valid.l0] at H
        by_cases c10 : x7_1 < (t258.length : Int)
        · rw [if_pos c10] at H
          have c10b0 : decide (x7_1 < (t258.length : Int)) = true := decide_eq_true c10
          clear c10
          by_cases c11 : 0 ≤ x7_1
          · rw [if_pos c11] at H
            have c11b0 : decide (0 ≤ x7_1) = true := decide_eq_true c11
            clear c11
            by_cases c12 : (rd t258 x7_1) > 32
            · rw [if_pos c12] at H
              have c12b0 : decide (32 < (rd t258 x7_1)) = true := decide_eq_true c12
              clear c12
              simp only [Option.some.injEq, Prod.mk.injEq] at H
              obtain ⟨rfl, rfl⟩ := H
              obtain ⟨Ao13, co13, eo13⟩ := Kd.R_slice HO_6.out
              subst eo13
              have p261 : 0 ≤ (x7_1 : Int) := of_decide_eq_true (by first | (with_reducible assumption) | assumption)
              have q261 : x7_1 < (t258.length : Int) := of_decide_eq_true (by first | (with_reducible assumption) | assumption)
              obtain ⟨ad261, e261, hx261_0⟩ := Kd.at_int (Kd.R_reads' HO_6.out).2.2 x7_1 p261 q261
              cases e261
              replace p261 := eq_true p261
              replace q261 := eq_true q261
              go_wp2
              go_ret2
              exact ⟨by first | rfl | (simp [errW_none, errW_some] <;> rfl) | (simp [*, errW_none, errW_some] <;> rfl), by repeat (first | (with_reducible first | exact HB.out | apply below_alloc | apply pw_below_drewN | apply below_drew1 | refine below_set ?_ GE255.out) | exact HB.out)⟩
            · rw [if_neg c12] at H
              have c12b0 : decide (32 < (rd t258 x7_1)) = false := decide_eq_false c12
              clear c12
              have H' := Aside0.mk H
              clear H
              obtain ⟨Ao14, co14, eo14⟩ := Kd.R_slice HO_6.out
              subst eo14
              have p261 : 0 ≤ (x7_1 : Int) := of_decide_eq_true (by first | (with_reducible assumption) | assumption)
              have q261 : x7_1 < (t258.length : Int) := of_decide_eq_true (by first | (with_reducible assumption) | assumption)
              obtain ⟨ad261, e261, hx261_0⟩ := Kd.at_int (Kd.R_reads' HO_6.out).2.2 x7_1 p261 q261
              cases e261
              replace p261 := eq_true p261
              replace q261 := eq_true q261
              go_wp2
              go_roundg k1
              case measure => have := HK1.out; omega
              case rel => exact ⟨(wrap64 (x7_1 + 1)), (by first | rfl | (simp; done) | (simp [*]; done)), H', ⟨by have := HK1.out; omega⟩, ⟨by (with_reducible repeat (first | apply Kd.R_alloc | apply Kd.R_drewN | apply Kd.R_drew)); exact HO_6.out⟩, ⟨by (with_reducible repeat (first | refine blk_drewN ?_ _ | refine blk_drew ?_ | refine blk_alloc ?_ _)); exact BK255.out⟩, ⟨by repeat (first | (with_reducible first | exact HB.out | apply below_alloc | apply pw_below_drewN | apply below_drew1 | refine below_set ?_ GE255.out) | exact HB.out)⟩⟩
          · rw [if_neg c11] at H
            exact absurd H (by simp)
        · rw [if_neg c10] at H
          have c10b0 : decide (x7_1 < (t258.length : Int)) = false := decide_eq_false c10
          clear c10
          simp only [Option.some.injEq, Prod.mk.injEq] at H
          obtain ⟨rfl, rfl⟩ := H
          obtain ⟨Ao15, co15, eo15⟩ := Kd.R_slice HO_6.out
          subst eo15
          go_wp2
          go_ret2
          exact ⟨by first | rfl | (simp [errW_none, errW_some] <;> rfl) | (simp [*, errW_none, errW_some] <;> rfl), by repeat (first | (with_reducible first | exact HB.out | apply below_alloc | apply pw_below_drewN | apply below_drew1 | refine below_set ?_ GE255.out) | exact HB.out)⟩
  · rw [if_neg c3] at H
    have c3b0 : (t256 == 0) = false := beq_eq_false_iff_ne.mpr c3
    have c3b1 : (t256 != 0) = true := bne_iff_ne.mpr c3
    simp only [Option.some.injEq, Prod.mk.injEq] at H
    obtain ⟨rfl, rfl⟩ := H
    go_enter Tryd.func9, Tryd.ntmps9
    go_wp2_with (first | ((with_reducible refine gate_dst (N := 1) rfl ?_); refine box_event ?hg (N := 1) ?hd (cs := #[.slice A0_0 l0_0.length c0_0]) (t := 24) ?hr ?_; (case hd => rfl); (case hg => rfl); (case hr => first | (go_simp; done) | (go_simp; rfl)); intro gb255 hg w16 hbox hb; have n0_ := Aside0.mk (below_step (by repeat (first | (with_reducible first | exact HB.out | apply below_alloc | apply pw_below_drewN | apply below_drew1) | exact HB.out)) hb); have n1_ := Aside0.mk (hbox); have n2_ := Aside0.mk ((by rw [hg]; exact (below_size (by repeat (first | (with_reducible first | exact HB.out | apply below_alloc | apply pw_below_drewN | apply below_drew1) | exact HB.out))) : w.heap.size ≤ gb255)); have n3_ := Aside0.mk ((by rw [hg]; exact (below_size (by repeat (first | (with_reducible first | exact HB.out | apply below_alloc | apply pw_below_drewN | apply below_drew1) | exact HB.out))) : w.heap.size ≤ gb255)); clear HB; have HB := n0_; have BK255 := n1_; have GW255 := n2_; have GE255 := n3_; clear n0_ n1_ n2_ n3_; clear hb hbox hg; have hcz17_0 : w16.cell? ⟨gb255, 0, none⟩ = some (.slice A0_0 l0_0.length c0_0) := (blk_cell BK255.out 0).trans rfl; have hfz17_0 := blk_frozen BK255.out 0) | ((with_reducible refine gate_callee (f := 20) rfl ?_); refine goesL_ (some 10) rfl rfl Tryd.func20 (by kernel_rfl) rfl #[.agg #[.slice A0_0 l0_0.length c0_0]] rfl (by (try simp only [List.map_toArray, List.map_cons, List.map_nil]); first | done | rfl | (simp only [List.length_drop, List.length_take]; rfl)) ?_; (with_reducible refine (berthref13_form.calls k _ _ l0_0 t256 t257 _ ?side1 ?side2 A2.out).mono ?_); (case side1 => repeat (first | exact (Kd.C_below HR0_0.out HB.out) | (with_reducible refine Kd.C_alloc ?_ _) | (with_reducible refine Kd.C_drewN ?_ _) | (with_reducible refine Kd.C_drew ?_))); (case side2 => exact HC0_0.out); rintro e w18 ⟨rfl, hb⟩; refine ⟨_, rfl, ?_⟩; have n0_ := Aside0.mk (blk_below (g := gb255) (o := .cells #[.slice A0_0 l0_0.length c0_0] 24 (0, 0)) (by (with_reducible repeat (first | refine blk_drewN ?_ _ | refine blk_drew ?_ | refine blk_alloc ?_ _)); exact BK255.out) hb); have n1_ := Aside0.mk (below_step (by repeat (first | (with_reducible first | exact HB.out | apply below_alloc | apply pw_below_drewN | apply below_drew1 | refine below_set ?_ GE255.out) | exact HB.out)) hb); clear BK255; clear HB; have BK255 := n0_; have HB := n1_; clear n0_ n1_; (try clear hb); (try clear hb2); (try clear hk); (try clear hi)))
    go_ret2
    exact ⟨by first | rfl | (simp [errW_none, errW_some] <;> rfl) | (simp [*, errW_none, errW_some] <;> rfl), by repeat (first | (with_reducible first | exact HB.out | apply below_alloc | apply pw_below_drewN | apply below_drew1 | refine below_set ?_ GE255.out) | exact HB.out)⟩

end Go.Proofs.YteeojceloljcbaaDoor.P
