/-
  The walks of show.Nest and show.Valid: the spec's fault, and the nest.
-/
import Derived.Test.YtghhnnbbjlipcaaGreatDoorShape
import Derived.Test.YtghhnnbbjlipcaaGreatDoorValid
set_option linter.unusedVariables false
set_option linter.unusedSimpArgs false
namespace Go.Proofs.YtghhnnbbjlipcaaGreatDoor.H
open Go.RowKit Go.Proofs.YtghhnnbbjlipcaaGreatDoorW.PrintWords Go.Proofs.YtghhnnbbjlipcaaGreatDoorW.PrintLast Go.Proofs.YtghhnnbbjlipcaaGreatDoorW.PrintMore Go.Proofs.YtghhnnbbjlipcaaGreatDoor.P
attribute [local go_sem] max2_int min2_int max_two min_two max_three min_three max_four min_four

theorem nests_c (A0 : Option Addr) (c0 : Nat) (l0 : List Pt) (w : World) (hr : Kd.C k45 w A0 l0.length l0) (hc : l0.length ≤ c0) (hS : Shape l0) :
    Calls Tryz.prog 41 #[.slice A0 l0.length c0] w fun e w' => ∃ A c, e = .returned (.slice A (nestsSpec l0).length c) ∧ Kd.C (Kd.int .i64) w' A (nestsSpec l0).length (nestsSpec l0) ∧ Below w.heap.size w w' := by
  obtain ⟨k, hk⟩ := (show_nests_ev l0 hS).rounds
  refine (show_nests.calls k A0 c0 l0 _ w hr hc hk).mono ?_
  rintro e w' ⟨v, rfl, hR, hB⟩
  obtain ⟨A, c, rfl, _, hC⟩ := Kd.R_reads hR
  exact ⟨A, c, rfl, hC, hB⟩
/-- What Nest answers. -/
def NestAns (w : World) (n : Int) (o : Option (Int × Int)) (e : Ending) (w' : World) : Prop := ∃ v, e = .returned (.tuple #[.int .i64 n, v]) ∧ ErrIs w' v o ∧ Below w.heap.size w w'

set_option maxHeartbeats 4000000 in
set_option maxRecDepth 100000 in
theorem show_nest (A0 : Option Addr) (c0 : Nat) (l0 : List Pt) (w : World) (hr : Kd.C k45 w A0 l0.length l0) (hc : l0.length ≤ c0) :
    Calls Tryz.prog 22 #[.agg #[.slice A0 l0.length c0]] w (NestAns w (nestOf l0) (validSpec l0)) := by
  have HR := Lib.hid hr
  have HC := Lib.hid hc
  clear hr hc
  have hsz := (Below.refl w.heap.size w)
  have HW := Lib.hid ((Below.refl w.heap.size w).alloc (Nat.le_refl _) (.cells #[.slice A0 l0.length c0] 25))
  clear hsz
  cases hf : formSpec l0 with
  | some f =>
    have hv : validSpec l0 = some f := by simp [validSpec, hf]
    have hn : nestOf l0 = 0 := by simp [nestOf, hv]
    rw [hv, hn]
    have HS := Lib.hid (show_shape A0 c0 l0)
    rw [hf] at HS
    clear hf hv hn
    go_enter Tryz.func22, Tryz.ntmps22
    go_wp2_with (go_at_call 40; refine (HS.out _ (Kd.C_below HR.out HW.out) HC.out).mono ?_; rintro e w1 ⟨v, rfl, hE, hB⟩; obtain ⟨fc, fa⟩ := f; obtain ⟨g, rfl, hrest⟩ := hE; have HE := Lib.hid hrest; clear hrest)
    go_ret2
    exact ⟨_, rfl, ⟨g, rfl, HE.out⟩, below_then HW.out HW.out.size hB⟩
  | none =>
    have hS := formSpec_shape l0 hf
    have HS := Lib.hid (show_shape A0 c0 l0)
    have HN := Lib.hid (fun W h1 h2 => nests_c A0 c0 l0 W h1 h2 hS)
    rw [hf] at HS
    obtain ⟨hwi, hlen⟩ := nestsSpec_within l0 hS.few
    have hv : validSpec l0 = deepGo (nestsSpec l0) 0 := by simp [validSpec, hf]
    have hno : nestOf l0 = if (deepGo (nestsSpec l0) 0).isNone then mostGo (nestsSpec l0) 0 else 0 := by simp [nestOf, hv, nestMost]
    have hfew := hS.few
    rw [hv]
    have hnn : (deepGo (nestsSpec l0) 0 = none → nestOf l0 = mostGo (nestsSpec l0) 0) ∧ (deepGo (nestsSpec l0) 0 ≠ none → nestOf l0 = 0) := by
      rw [hno]
      constructor
      · intro h; simp [h]
      · intro h
        cases hd : deepGo (nestsSpec l0) 0 with
        | none => exact absurd hd h
        | some x => simp
    generalize hns : nestsSpec l0 = ns at *
    generalize ho : deepGo ns 0 = o at *
    generalize hq : nestOf l0 = q at *
    have hnl : ns.length ≤ 1000 := by omega
    have HWI := Lib.hid hwi
    have HNN := Lib.hid hnn
    have HO := Lib.hid ho
    clear hf hv hno hS hns hwi hlen hnn ho hq
    go_enter Tryz.func22, Tryz.ntmps22
    go_wp2_with (go_at_call 40; refine (HS.out _ (Kd.C_below HR.out HW.out) HC.out).mono ?_; rintro e w1 ⟨v, rfl, hE, hB⟩; cases hE; have HW1 := Lib.hid (below_then HW.out HW.out.size hB); have HB := Lib.hid hB; clear hB; have hc1 : w1.cell? ⟨w.heap.size, 0, none⟩ = some (.slice A0 l0.length c0) := pw_cell_below HB.out (by simp))
    go_wp2_with (go_at_call 41; refine (HN.out _ (Kd.C_below HR.out HW1.out) HC.out).mono ?_; rintro e w2 ⟨A, c, rfl, hC, hB⟩; have HW2 := Lib.hid (below_then HW1.out HW1.out.size hB); have HC2 := Lib.hid hC; clear hB hC hc1)
    go_loopw [5, 18] (fun m i wr => ∃ (k : Nat) (mm : Int), k ≤ ns.length ∧ i = .int .i64 k ∧ m = .int .i64 mm ∧ Hid (deepGo (ns.drop k) k = o) ∧ Hid (mostGo (ns.drop k) mm = mostGo ns 0) ∧ Hid (0 ≤ mm ∧ mm ≤ 32) ∧ Hid (Below w2.heap.size w2 wr)) (fun _ i _ => ns.length - (intOf i).toNat)
    case atStart => exact ⟨0, 0, Nat.zero_le _, rfl, rfl, Lib.hid (by simpa using HO.out), Lib.hid (by simp), Lib.hid (by omega), Lib.hid (Below.refl _ _)⟩
    case round =>
      obtain ⟨k, mm, hk, rfl, rfl, HD, HM, HQ, HB3⟩ := hrel
      by_cases hlt : k < ns.length
      · have hltB : decide (k < ns.length) = true := by simp; omega
        obtain ⟨adx, x, rfl, hx, hcx⟩ := C_int_at (Kd.C_below HC2.out HB3.out) k hlt
        have hxe : ns[k] = x := by rw [← hx]; simp [List.getD_eq_getElem?_getD, List.getElem?_eq_getElem hlt]
        have hd := HD.out
        have hm := HM.out
        rw [List.drop_eq_getElem_cons hlt, hxe] at hd hm
        simp only [deepGo, mostGo] at hd hm
        have hxr := HWI.out x (by rw [← hxe]; exact List.getElem_mem hlt)
        have HXR := Lib.hid hxr
        clear hx hxe hxr
        by_cases h32 : 32 < x
        · have hB32 : decide (32 < x) = true := by simp; omega
          rw [if_pos h32] at hd
          have HD2 := Lib.hid hd
          clear hd hm h32
          go_wp2_with (go_at_call 38; refine (show_fault _ _ _).mono ?_; rintro e w3 ⟨rfl, rfl⟩)
          go_ret2
          have hq0 := HNN.out.2 (by rw [← HD2.out]; simp)
          subst hq0
          rw [← HD2.out]
          exact ⟨_, rfl, ErrIs.new _ _ _ rfl, (below_then HW2.out HW2.out.size HB3.out).alloc (by have := (below_then HW2.out HW2.out.size HB3.out).size; omega) _⟩
        · have hB32 : decide (32 < x) = false := by simp; omega
          rw [if_neg h32] at hd
          have HD2 := Lib.hid hd
          have HM2 := Lib.hid hm
          clear hd hm
          go_wp2
          go_roundw
          case rel => exact ⟨k + 1, max mm x, by omega, by go_num, (by congr 1; split <;> omega), HD2, HM2, Lib.hid (by have := HQ.out; have := HXR.out; omega), HB3⟩
          case measure => simp [intOf]; omega
      · have hltB : decide (k < ns.length) = false := by simp; omega
        obtain rfl : k = ns.length := by omega
        have hd := HD.out
        have hm := HM.out
        rw [List.drop_length] at hd hm
        simp only [deepGo, mostGo] at hd hm
        subst hd
        have hq0 := HNN.out.1 rfl
        have HQ0 := Lib.hid (hq0.trans hm.symm)
        clear hm hq0
        go_wp2
        go_ret2
        have := HQ0.out
        subst this
        exact ⟨_, rfl, rfl, below_then HW2.out HW2.out.size HB3.out⟩
set_option maxHeartbeats 4000000 in
set_option maxRecDepth 100000 in
theorem show_valid (A0 : Option Addr) (c0 : Nat) (l0 : List Pt) (w : World) (hr : Kd.C k45 w A0 l0.length l0) (hc : l0.length ≤ c0) :
    Calls Tryz.prog 18 #[.agg #[.slice A0 l0.length c0]] w (Errs w (validSpec l0)) := by
  have HR := Lib.hid hr
  have HC := Lib.hid hc
  clear hr hc
  have HW := Lib.hid ((Below.refl w.heap.size w).alloc (Nat.le_refl _) (.cells #[.slice A0 l0.length c0] 25))
  have HN := Lib.hid (show_nest A0 c0 l0)
  generalize validSpec l0 = o at *
  generalize nestOf l0 = q at *
  go_enter Tryz.func18, Tryz.ntmps18
  go_wp2_with (go_at_call 22; refine (HN.out _ (Kd.C_below HR.out HW.out) HC.out).mono ?_; rintro e w1 ⟨v, rfl, hE, hB⟩; have HE := Lib.hid hE; have HB := Lib.hid hB; clear hE hB)
  go_ret
  exact ⟨_, rfl, HE.out, below_then HW.out HW.out.size HB.out⟩

end Go.Proofs.YtghhnnbbjlipcaaGreatDoor.H
