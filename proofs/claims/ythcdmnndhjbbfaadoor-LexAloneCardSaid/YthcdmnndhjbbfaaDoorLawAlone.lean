/-
  The walk of LexAlone.
-/
import Derived.Test.YthcdmnndhjbbfaaDoorLawFirst
import Derived.Test.YthcdmnndhjbbfaaDoorLexAl
set_option linter.unusedVariables false
set_option linter.unusedSimpArgs false
namespace Go.Proofs.YthcdmnndhjbbfaaDoor.X
open Go.RowKit

theorem wide_len (l : Bs) (ts : List Tk) : (wideOf l ts).length ≤ ts.length * (4 + l.length) := by
  induction ts with
  | nil => simp [wideOf]
  | cons t ts ih =>
    simp only [wideOf, List.flatMap_cons, List.length_append, List.length_cons, List.length_nil] at ih ⊢
    have h : (ownOf l t).length ≤ l.length := by unfold ownOf; rw [List.length_take, List.length_drop]; omega
    rw [Nat.add_mul, Nat.one_mul]
    generalize ts.length * (4 + l.length) = P at ih ⊢
    omega
/-- A token of a source: where it lies; what it is alone. -/
theorem tok_alone {l : Bs} {ts : List Tk} (h : scanL l = (ts, none)) {k : Nat} (hk : k < ts.length) :
    ts[k].at_ ≤ ts[k].end_ ∧ ts[k].end_ ≤ l.length ∧ (ownOf l ts[k]).length = ts[k].end_ - ts[k].at_ ∧ (k + 1 < ts.length → scanL (ownOf l ts[k]) = ([{ ts[k] with at_ := 0, end_ := (ownOf l ts[k]).length }, ⟨0, [], 0, (ownOf l ts[k]).length, (ownOf l ts[k]).length⟩], none)) := by
  obtain ⟨hl, hc⟩ := prefix_chain h
  obtain ⟨us, rfl, hu⟩ := chain_toks hc
  by_cases hlt : k < us.length
  · have e : (us ++ [⟨0, [], 0, l.length, l.length⟩])[k] = us[k] := List.getElem_append_left hlt
    rw [e]
    obtain ⟨h1, h2, h3⟩ := hu us[k] (List.getElem_mem hlt)
    obtain ⟨k1, k2, k3, k4⟩ := own_tok h1 h2 h3
    exact ⟨by omega, k4, k2, fun _ => scan_alone hl h1 h2 h3⟩
  · have hk2 : k = us.length := by simp at hk; omega
    subst hk2
    have e : (us ++ [⟨0, [], 0, l.length, l.length⟩])[us.length]'hk = ⟨0, [], 0, l.length, l.length⟩ := by simp
    rw [e]
    exact ⟨Nat.le_refl _, Nat.le_refl _, by simp [ownOf], fun h => by simp at h⟩
theorem long_scan {l : Bs} (h : 4096 < l.length) : scanL l = ([], some (110, 4096)) := by unfold scanL prefixL; rw [if_pos h]; rfl
theorem own_extract (s : ByteArray) (t : Tk) : (s.extract t.at_ t.end_).data.toList = ownOf s.data.toList t := by
  simp only [ByteArray.data_extract, Array.toList_extract, List.extract_eq_take_drop, ownOf]

set_option maxHeartbeats 16000000 in
set_option maxRecDepth 100000 in
theorem lexAlone_any (s : ByteArray) (w : World) (hs : s.size ≤ 140737488355328) (hL : LW w) :
    Calls Tryd.prog 6 #[.string s] w fun e w' => e = .returned (.bool true) ∧ Below w.heap.size w w' := by
  have HL := Lib.hid hL
  have S1 := Lib.hid (fun W h => scan_any s W (by omega) h)
  clear hL
  rcases scan_cases s.data.toList with ⟨ts, hq, hlen⟩ | ⟨c, at_, hq, hc0⟩
  · rw [hq] at S1
    obtain ⟨hl, hC⟩ := prefix_chain hq
    have hl2 : s.size ≤ 4096 := by rwa [size_len] at hl
    have hne := List.length_pos_iff.2 (show ts ≠ [] by cases hC <;> simp)
    have hI0 : ((ts.length : Int) == 0) = false := by rw [beq_eq_false_iff_ne]; omega
    have HQ := Lib.hid hq
    clear hq hl hC
    go_enter Tryd.func6, Tryd.ntmps6
    go_upto_region 4 with (first
      | (go_at_call 17; refine (fixed_any _ HL.out).mono ?_; rintro e w5 ⟨rfl, hF⟩; have HF := Lib.hid hF; clear hF)
      | (go_at_call 18; refine (S1.out _ (HL.out.below HF.out)).mono ?_; rintro e w1 ⟨hB1, v1, hO1, rfl⟩; have HB1 := Lib.hid (HF.out.trans (hB1.mono HF.out.size)); have HO1 := Lib.hid hO1; clear hB1 hO1))
    rcases tokAt_of_own HO1.out with ⟨_, he⟩ | ⟨g, cap, rfl, hg, hcell⟩
    · rw [he] at hne; simp at hne
    have HCE := Lib.hid hcell
    clear hcell
    go_wp2_with fail
    go_loopw [5, 29] (fun vx vi wr => ∃ (x : ByteArray) (k : Nat), k ≤ ts.length ∧ vx = .string x ∧ vi = .int .i64 k ∧ Hid (x.data.toList = wideOf s.data.toList (ts.take k)) ∧ Hid (Below w1.heap.size w1 wr)) (fun _ vi _ => ts.length - (intOf vi).toNat)
    case atStart => exact ⟨⟨#[]⟩, 0, Nat.zero_le _, rfl, rfl, Lib.hid (by simp [wideOf]), Lib.hid (Below.refl _ _)⟩
    case round =>
      obtain ⟨x, k, hk, rfl, rfl, HX, HW⟩ := hrel
      have hxs : x.size ≤ 100000000 := by
        have h1 := wide_len s.data.toList (ts.take k)
        rw [← HX.out, size_len, size_len] at h1
        have h2 : (ts.take k).length ≤ 4097 := by rw [List.length_take]; omega
        have h3 : (ts.take k).length * (4 + s.size) ≤ 4097 * (4 + 4096) := Nat.mul_le_mul h2 (by omega)
        omega
      have HLr := Lib.hid (HL.out.below (HB1.out.trans (HW.out.mono HB1.out.size)))
      have hzw := HW.out.size
      by_cases hlt : k < ts.length
      · have hI : (k : Int) < (ts.length : Int) := by omega
        obtain ⟨h1, h2, h3, h4⟩ := tok_alone HQ.out hlt
        rw [size_len] at h2
        have ca : ∀ j u, (tokCells ts[k]).toList[j]? = some u → wr.cell? ⟨g, k * 5 + j, none⟩ = some u := fun j u hu => (World.cell?_of_block (a := ⟨g, k * 5 + j, none⟩) (HW.out.block g hg)).trans (HCE.out k hlt j u hu)
        have HT : Hid (wideOf s.data.toList (ts.take (k + 1)) = wideOf s.data.toList (ts.take k) ++ (gapA ++ ownOf s.data.toList ts[k])) := Lib.hid (by rw [List.take_succ_eq_append_getElem hlt, wide_snoc])
        generalize ts[k] = t at h1 h2 h3 h4 ca HT
        have a0 : wr.cell? ⟨g, k * 5, none⟩ = some (.int .i64 t.kind) := ca 0 _ rfl
        have a1 : wr.cell? ⟨g, k * 5 + 1, none⟩ = some (.string ⟨t.text.toArray⟩) := ca 1 _ rfl
        have a2 : wr.cell? ⟨g, k * 5 + 2, none⟩ = some (.int .i64 t.num) := ca 2 _ rfl
        have a3 : wr.cell? ⟨g, k * 5 + 3, none⟩ = some (.int .i64 t.at_) := ca 3 _ rfl
        have a4 : wr.cell? ⟨g, k * 5 + 4, none⟩ = some (.int .i64 t.end_) := ca 4 _ rfl
        clear ca
        have hI2 : ¬ ((s.size : Int) < (t.end_ : Int)) := by omega
        have hI3 : ¬ ((t.end_ : Int) < (t.at_ : Int)) := by omega
        have hI3' : (t.at_ : Int) ≤ (t.end_ : Int) := by omega
        have hI4 : (t.end_ : Int) ≤ (s.size : Int) := by omega
        rw [← own_extract s t] at h3 h4 HT
        rw [size_len] at h3 h4
        have hos := extract_le s t.at_ t.end_
        have S2 := Lib.hid (fun W h => scan_any (s.extract t.at_ t.end_) W (by omega) h)
        have HX2 : Hid ((x ++ (⟨#[32, 35, 34, 10]⟩ ++ s.extract t.at_ t.end_)).data.toList = wideOf s.data.toList (ts.take (k + 1))) := Lib.hid (by rw [HT.out, ← HX.out]; simp)
        by_cases hlast : k + 1 < ts.length
        · have hI5 : (k : Int) < (ts.length : Int) - 1 := by omega
          rw [h4 hlast] at S2
          clear h4 hlast h1 h2
          go_upto_region 15 with (go_at_call 18; refine (S2.out _ (HLr.out.alloc _)).mono ?_; rintro e w7 ⟨hB7, v7, hO7, rfl⟩; have HB7 := Lib.hid hB7; have HO7 := Lib.hid hO7; clear hB7 hO7)
          rcases tokAt_of_own HO7.out with ⟨_, he⟩ | ⟨g2, cap2, rfl, hg2, hc2⟩
          · cases he
          have x0 : w7.cell? ⟨g2, 0, none⟩ = some (.int .i64 t.kind) := hc2 0 (by simp) 0 _ rfl
          have x1 : w7.cell? ⟨g2, 1, none⟩ = some (.string ⟨t.text.toArray⟩) := hc2 0 (by simp) 1 _ rfl
          have x2 : w7.cell? ⟨g2, 2, none⟩ = some (.int .i64 t.num) := hc2 0 (by simp) 2 _ rfl
          have x3 : w7.cell? ⟨g2, 3, none⟩ = some (.int .i64 0) := hc2 0 (by simp) 3 _ rfl
          have x4 : w7.cell? ⟨g2, 4, none⟩ = some (.int .i64 (s.extract t.at_ t.end_).size) := hc2 0 (by simp) 4 _ rfl
          have tz := (HB7.out.block wr.heap.size (by simp)).trans (Go.heap_alloc_new wr _)
          have y0 : w7.cell? ⟨wr.heap.size, 0, none⟩ = some (.int .i64 t.kind) := (Lib.cell_of_heap tz _).trans rfl
          have y1 : w7.cell? ⟨wr.heap.size, 1, none⟩ = some (.string ⟨t.text.toArray⟩) := (Lib.cell_of_heap tz _).trans rfl
          have y2 : w7.cell? ⟨wr.heap.size, 2, none⟩ = some (.int .i64 t.num) := (Lib.cell_of_heap tz _).trans rfl
          have HB8 := Lib.hid (HW.out.trans ((((Below.refl _ _).alloc (Nat.le_refl _) _).trans (HB7.out.mono (by simp))).mono hzw))
          clear tz hc2
          go_quiet (fail)
          go_wp2_with fail
          go_roundw
          case rel => exact ⟨_, k + 1, hlt, rfl, by go_num, HX2, Lib.hid (below_drewN HB8.out _)⟩
          case measure => simp [intOf]; omega
        · have hI5 : ¬ ((k : Int) < (ts.length : Int) - 1) := by omega
          clear h4 hlast h1 h2
          go_wp2_with fail
          go_roundw
          case rel => exact ⟨_, k + 1, hlt, rfl, by go_num, HX2, Lib.hid (HW.out.alloc hzw _)⟩
          case measure => simp [intOf]; omega
      · have hI : ¬ ((k : Int) < (ts.length : Int)) := by omega
        have hX : x.data.toList = wideOf s.data.toList ts := by
          have h := HX.out
          rwa [List.take_of_length_le (by omega)] at h
        have S3 := Lib.hid (fun W h => scan_any x W (by omega) h)
        have HBW := Lib.hid (HB1.out.trans (HW.out.mono HB1.out.size))
        by_cases hlong : 4096 < x.size
        · have hI4 : (4096 : Int) < (x.size : Int) := by omega
          rw [long_scan (by rw [size_len]; exact hlong)] at S3
          clear hlong hX
          go_wp2_with (first
            | (go_at_call 18; refine (S3.out _ HLr.out).mono ?_; rintro e w7 ⟨hB7, b, rfl, hb1, hb2⟩; have HB7 := Lib.hid hB7; have HF7 := Lib.hid hb2; clear hB7 hb2)
            | (go_at_call 16; refine (isFault_some b 110 4096 (by decide) _ HF7.out).mono ?_; rintro e w8 ⟨rfl, rfl⟩))
          go_ret
          exact ⟨rfl, HBW.out.trans (HB7.out.mono HBW.out.size)⟩
        · have hI4 : ¬ ((4096 : Int) < (x.size : Int)) := by omega
          obtain ⟨vs, hv1, hv2, hv3⟩ := scan_wide HQ.out (by rw [← hX, size_len]; omega)
          rw [hX, hv1] at S3
          have HSM := Lib.hid hv3
          have HV2 := Lib.hid hv2
          have hI9 : ((vs.length : Int) != (ts.length : Int)) = false := by rw [hv2]; simp
          clear hlong hX hv1 hv3
          go_upto_region 24 with (go_at_call 18; refine (S3.out _ HLr.out).mono ?_; rintro e w7 ⟨hB7, v7, hO7, rfl⟩; have HB7 := Lib.hid hB7; have HO7 := Lib.hid hO7; obtain ⟨A7, c7, rfl⟩ := own_slice hO7; clear hB7 hO7)
          rcases tokAt_of_own HO7.out with ⟨_, he⟩ | ⟨g3, cap3, he3, hg3, hc3⟩
          · rw [he] at hv2; simp at hv2; omega
          injection he3 with he4 he5 he6
          subst he4
          have HC3 := Lib.hid hc3
          clear hc3 he6
          go_wp2_with fail
          obtain ⟨wo, rfl⟩ : ∃ wo : World, wo = wr := ⟨_, rfl⟩
          go_loopw [143] (fun vi wq => ∃ j : Nat, j ≤ ts.length ∧ vi = .int .i64 j ∧ Hid (Below w7.heap.size w7 wq)) (fun vi _ => ts.length - (intOf vi).toNat)
          case atStart => exact ⟨0, Nat.zero_le _, rfl, Lib.hid (Below.refl _ _)⟩
          case round =>
            obtain ⟨j, hj, rfl, HW2⟩ := hrel
            by_cases hjlt : j < ts.length
            · have hIj : (j : Int) < (ts.length : Int) := by omega
              have hIv : (j : Int) < (vs.length : Int) := by have := HV2.out; omega
              have hjv : j < vs.length := by have := HV2.out; omega
              have hsm := HSM.out j hjv hjlt
              have hzw2 := HW2.out.size
              have hgw : g < w7.heap.size := Nat.lt_of_lt_of_le (Nat.lt_of_lt_of_le hg hzw) HB7.out.size
              have hbk : wr.heap[g]? = w1.heap[g]? := (HW2.out.block g hgw).trans ((HB7.out.block g (Nat.lt_of_lt_of_le hg hzw)).trans (HW.out.block g hg))
              have cA : ∀ i u, (tokCells ts[j]).toList[i]? = some u → wr.cell? ⟨g, j * 5 + i, none⟩ = some u := fun i u hu => (World.cell?_of_block (a := ⟨g, j * 5 + i, none⟩) hbk).trans (HCE.out j hjlt i u hu)
              have cB : ∀ i u, (tokCells vs[j]).toList[i]? = some u → wr.cell? ⟨g3, j * 5 + i, none⟩ = some u := fun i u hu => (World.cell?_of_block (a := ⟨g3, j * 5 + i, none⟩) (HW2.out.block g3 hg3)).trans (HC3.out j hjv i u hu)
              generalize ts[j] = t1 at hsm cA
              generalize vs[j] = t2 at hsm cB
              obtain ⟨e1, e2, e3⟩ := hsm
              have a0 : wr.cell? ⟨g, j * 5, none⟩ = some (.int .i64 t1.kind) := cA 0 _ rfl
              have a1 : wr.cell? ⟨g, j * 5 + 1, none⟩ = some (.string ⟨t1.text.toArray⟩) := cA 1 _ rfl
              have a2 : wr.cell? ⟨g, j * 5 + 2, none⟩ = some (.int .i64 t1.num) := cA 2 _ rfl
              have b0 : wr.cell? ⟨g3, j * 5, none⟩ = some (.int .i64 t1.kind) := by rw [← e1]; exact cB 0 _ rfl
              have b1 : wr.cell? ⟨g3, j * 5 + 1, none⟩ = some (.string ⟨t1.text.toArray⟩) := by rw [← e2]; exact cB 1 _ rfl
              have b2 : wr.cell? ⟨g3, j * 5 + 2, none⟩ = some (.int .i64 t1.num) := by rw [← e3]; exact cB 2 _ rfl
              clear cA cB e1 e2 e3 hbk
              go_wp2_with fail
              go_quiet (fail)
              go_wp2_with fail
              go_roundw
              case rel => exact ⟨j + 1, by omega, by go_num, Lib.hid (below_drewN HW2.out _)⟩
              case measure => simp [intOf]; omega
            · have hIj : ¬ ((j : Int) < (ts.length : Int)) := by omega
              go_wp2_with fail
              go_ret
              exact ⟨rfl, HBW.out.trans ((HB7.out.trans (HW2.out.mono HB7.out.size)).mono HBW.out.size)⟩
  · rw [hq] at S1
    clear hq
    go_enter Tryd.func6, Tryd.ntmps6
    go_wp2_with (first
      | (go_at_call 17; refine (fixed_any _ HL.out).mono ?_; rintro e w5 ⟨rfl, hF⟩; have HF := Lib.hid hF; clear hF)
      | (go_at_call 18; refine (S1.out _ (HL.out.below HF.out)).mono ?_; rintro e w1 ⟨hB1, b, rfl, hb1, hb2⟩; have HB1 := Lib.hid hB1; clear hB1 hb1 hb2))
    go_ret
    exact ⟨rfl, HF.out.trans (HB1.out.mono HF.out.size)⟩
end Go.Proofs.YthcdmnndhjbbfaaDoor.X
