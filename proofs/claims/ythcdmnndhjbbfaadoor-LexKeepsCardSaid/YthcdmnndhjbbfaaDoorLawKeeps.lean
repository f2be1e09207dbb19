/-
  The walk of LexKeeps.
-/
import Derived.Test.YthcdmnndhjbbfaaDoorKpD
import Derived.Test.YthcdmnndhjbbfaaDoorLawFirst
set_option linter.unusedVariables false
set_option linter.unusedSimpArgs false
namespace Go.Proofs.YthcdmnndhjbbfaaDoor.X
open Go.RowKit
theorem own_ne {v : Value} {A n c : Nat} (h : ∀ b, v.ownBlock = some b → (Value.slice (some ⟨A, 0, none⟩) n c).ownBlock ≠ some b) : v.ownBlock ≠ some A := fun e => h A e rfl
theorem fault_keep {w : World} {b : Nat} (u v : Value) : Keep (fun k => b = k) w ((w.setCell ⟨b, 1, none⟩ u).setCell ⟨b, 0, none⟩ v) :=
  ⟨rfl, rfl, rfl, by simp, fun k _ hx => (Below.heap_setCell _ _ _ k (fun e => hx e.symm)).trans (Below.heap_setCell _ _ _ k (fun e => hx e.symm))⟩
set_option maxHeartbeats 8000000 in
set_option maxRecDepth 100000 in
theorem lexKeeps_any (s : ByteArray) (w : World) (hs : s.size ≤ 140737488355328) (hL : LW w) :
    Calls Tryd.prog 8 #[.string s] w fun e w' => e = .returned (.bool true) ∧ Below w.heap.size w w' := by
  have HL := Lib.hid hL
  have S1 := Lib.hid (fun W h => scan_u s W (by omega) h)
  have S2 := Lib.hid (fun W => refScan_any s W (by omega))
  have HCF := Lib.hid (fun c a (h : (scanL s.data.toList).2 = some (c, a)) => scan_code h)
  have HLN := Lib.hid (scan_len s.data.toList)
  have hta := assert_fault
  clear hL hs
  generalize scanL s.data.toList = R at S1 S2 HCF HLN
  obtain ⟨ts, f⟩ := R
  dsimp only at S1 S2 HCF HLN
  go_enter Tryd.func8, Tryd.ntmps8
  go_wp2_with (first
    | (go_at_call 19; refine (S2.out _).mono ?_; rintro e w2 ⟨vw, hO, hB, rfl⟩; have BW := Lib.hid (HF.out.trans (hB.mono HF.out.size)); have HW := Lib.hid (tokAt_of_own hO); clear hB hO; dsimp only)
    | (go_at_call 17; refine (fixed_any _ HL.out).mono ?_; rintro e w5 ⟨rfl, hF⟩; have HF := Lib.hid hF; clear hF))
  go_loopw [6, 7] (fun av v wr => ∃ (k : Nat) (vs : List Value) (av1 : Value), k ≤ 18 ∧ vs.length = k ∧ v = .int .i64 k ∧ av1 = av ∧ Hid (C1 w2 wr ts vs av1)) (fun _ v _ => 18 - (intOf v).toNat)
  case atStart => exact ⟨0, [], _, by omega, rfl, rfl, rfl, Lib.hid (C1.begin w2 ts)⟩
  case round =>
    obtain ⟨k, vs, av1, hk, hvl, rfl, hav, HB⟩ := hrel
    subst hav
    by_cases hlt : k < 18
    · have hI : (k : Int) < 18 := by omega
      have HLr := Lib.hid (HL.out.below (BW.out.trans (HB.out.bel.mono BW.out.size)))
      go_wp2_with (first
        | (at_builtin; go_loud (refine app_sl w2.heap.size rfl (.tmp 50) (.tmp 52) rfl _ vs _ rfl rfl rfl (row_below' HB.out.own B3.out) (by have := HB.out.bel.size; have := B3.out.size; omega) (by omega) ?_; intro v8 w8 hr8 hg8 hat8; have S8 := Lib.hid (HB.out.step B1.out HO1.out (B13.out.trans ((Below.refl _ _).alloc B13.out.size _)) hr8 hg8 hat8); clear hr8 hg8 hat8))
        | (go_at_call 16; go_loud (refine (isFault_u _ wr.heap.size ev f HCF.out (HF1.out.below B13.out)).mono ?_; rintro e w6 ⟨rfl, rfl⟩))
        | (go_at_call 20; go_loud (refine (same_any _ _ ts ts _ (tokAt_of_own HO1.out) ((HW.out.kept HB.out.bel).kept B1.out) (by have := HLN.out; omega) (by have := HLN.out; omega)).mono ?_; rintro e w3 ⟨he, hB⟩; rw [decide_eq_true rfl] at he; subst he; have B13 := Lib.hid hB; have B3 := Lib.hid (B1.out.trans (hB.mono B1.out.size)); clear hB))
        | (go_at_call 18; go_loud (refine (S1.out _ HLr.out).mono ?_; rintro e w1 ⟨hB, a1, c1, ev, rfl, hO, hf⟩; have B1 := Lib.hid hB; have HO1 := Lib.hid hO; have HF1 := Lib.hid hf; clear hB hO hf)))
      go_roundw
      case rel => exact ⟨k + 1, _, _, by omega, by simp [hvl], by go_num, rfl, S8⟩
      case measure => simp [intOf]; omega
    · obtain rfl : k = 18 := by omega
      have hI : ¬ ((18 : Nat) : Int) < 18 := by omega
      obtain ⟨A, cap, rfl⟩ : ∃ A cap, av1 = .slice (some ⟨A, 0, none⟩) vs.length cap := by
        have h := HB.out.own
        obtain ⟨m, hm⟩ : ∃ m, vs.length = m + 1 := ⟨17, hvl⟩
        rw [hm] at h ⊢
        exact own_someT h
      obtain ⟨wA, rfl⟩ : ∃ x, x = wr := ⟨_, rfl⟩
      go_wp2_with fail
      go_loopw [56] (fun v wq => ∃ k : Nat, k ≤ vs.length ∧ v = .int .i64 k ∧ Hid (Below wA.heap.size wA wq)) (fun v _ => vs.length - (intOf v).toNat)
      case atStart => exact ⟨0, by omega, rfl, Lib.hid (Below.refl _ _)⟩
      case round =>
        obtain ⟨k, hk, rfl, HQ⟩ := hrel
        have HC := Lib.hid (HB.out.below HQ.out)
        by_cases hlt : k < vs.length
        · have hI : (k : Int) < (vs.length : Int) := by omega
          have ca := own_cell HC.out.own hlt
          have HT := Lib.hid (tokAt_of_own (HC.out.toks _ (List.getElem_mem hlt)))
          obtain ⟨a1, c1, ev⟩ := HT.out.slice
          rw [ev] at ca HT
          have haz := World.block_lt_of_cell? _ _ ca
          clear ev
          go_wp2_with (go_at_call 20; go_loud (refine (same_any _ _ ts ts _ HT.out (HW.out.kept HC.out.bel) (by have := HLN.out; omega) (by have := HLN.out; omega)).mono ?_; rintro e w3 ⟨he, hB⟩; rw [decide_eq_true rfl] at he; subst he; have B3 := Lib.hid (HQ.out.trans (hB.mono HQ.out.size)); clear hB))
          go_roundw
          case rel => exact ⟨k + 1, by omega, by go_num, B3⟩
          case measure => simp [intOf]; omega
        · obtain rfl : k = vs.length := by omega
          have hI : ¬ (vs.length : Int) < (vs.length : Int) := by omega
          have HCC := Lib.hid (fun j (hj : j < vs.length) => own_cell HC.out.own hj)
          have HA := Lib.hid (fun v (hv : v ∈ vs) => own_ne (HC.out.ne v hv))
          have XA : Hid (Calls Tryd.prog 23 #[.slice (some ⟨A, 0, none⟩) 18 cap] wr fun e w' => e = .returned (.bool true) ∧ Keep (XV vs) wr w') := Lib.hid (by
            have h := apart_any A cap vs ts.length wr (by omega) (by have := HLN.out; omega) HC.out.ain HA.out HCC.out
            rw [hvl] at h
            exact h)
          cases f with
          | none =>
            simp only [codeOf, placeOf]
            go_wp2_with (first
              | (go_at_call 16; go_loud (refine (isFault_u _ wa.heap.size _ none HCF.out FB3.out).mono ?_; rintro e w6 ⟨rfl, rfl⟩))
              | (go_at_call 16; go_loud (refine (isFault_u _ _ ec none HCF.out (FC.out.below BF.out)).mono ?_; rintro e w6 ⟨rfl, rfl⟩; have FB3 := Lib.hid (FBE2.out.below BF.out)))
              | (go_at_call 20; go_loud (refine (same_any _ _ ts ts _ HOC.out (HW.out.kept BWF.out) (by have := HLN.out; omega) (by have := HLN.out; omega)).mono ?_; rintro e wf ⟨he, hB⟩; rw [decide_eq_true rfl] at he; subst he; have BF := Lib.hid hB; clear hB))
              | (go_at_call 18; go_loud (refine (S1.out _ LE.out).mono ?_; rintro e we ⟨hB, ac, cc1, ec, rfl, hO, hf⟩; have BE := Lib.hid hB; have HOC := Lib.hid (tokAt_of_own hO); have FC := Lib.hid hf; have FBE2 := Lib.hid (FBE.out.below hB); have BWF := Lib.hid (BWD.out.trans (hB.mono BWD.out.size)); clear hO hf; clear hB))
              | (go_at_call 16; go_loud (refine (isFault_u _ wa.heap.size _ none HCF.out FBD.out).mono ?_; rintro e w6 ⟨rfl, rfl⟩; have FBE := Lib.hid FBD.out))
              | (go_at_call 16; go_loud (refine (isFault_u _ w9.heap.size _ none HCF.out (FA.out.below BAD.out)).mono ?_; rintro e w6 ⟨rfl, rfl⟩; have FBD := Lib.hid (FB.out.below BD.out)))
              | (go_at_call 20; go_loud (refine (same_any _ _ ts ts _ (HOB.out.kept BC.out) (HW.out.kept (BWB.out.trans (BC.out.mono BWB.out.size))) (by have := HLN.out; omega) (by have := HLN.out; omega)).mono ?_; rintro e wd ⟨he, hB⟩; rw [decide_eq_true rfl] at he; subst he; have BD := Lib.hid (BC.out.trans (hB.mono BC.out.size)); have BWD := Lib.hid (BWB.out.trans (BD.out.mono BWB.out.size)); have BAD := Lib.hid (BB.out.trans (BD.out.mono BB.out.size)); have LE := Lib.hid (HL.out.below (BW.out.trans (BWD.out.mono BW.out.size))); clear hB))
              | (go_at_call 20; go_loud (refine (same_any _ _ ts ts _ (HOA.out.kept BB.out) (HW.out.kept BWB.out) (by have := HLN.out; omega) (by have := HLN.out; omega)).mono ?_; rintro e wc ⟨he, hB⟩; rw [decide_eq_true rfl] at he; subst he; have BC := Lib.hid hB; clear hB))
              | (go_at_call 18; go_loud (refine (S1.out _ LA.out).mono ?_; rintro e wb ⟨hB, ab, cb1, eb, rfl, hO, hf⟩; have BB := Lib.hid hB; have HOB := Lib.hid (tokAt_of_own hO); have BWB := Lib.hid (B9.out.trans ((BA.out.trans (hB.mono BA.out.size)).mono B9.out.size)); have FB := Lib.hid hf; clear hf; clear hO; clear hB))
              | (go_at_call 18; go_loud (refine (S1.out _ L9.out).mono ?_; rintro e wa ⟨hB, aa, ca1, ea, rfl, hO, hf⟩; have BA := Lib.hid hB; have HOA := Lib.hid (tokAt_of_own hO); have LA := Lib.hid (L9.out.below hB); have FA := Lib.hid hf; clear hf; clear hO; clear hB))
              | (go_at_call 23; go_loud (refine XA.out.mono ?_; rintro e w9 ⟨rfl, hk9⟩; have B9 := Lib.hid (HC.out.after hk9); have L9 := Lib.hid (HL.out.below (BW.out.trans (B9.out.mono BW.out.size))); clear hk9)))
            go_ret
            exact ⟨rfl, BW.out.trans ((BWF.out.trans (BF.out.mono BWF.out.size)).mono BW.out.size)⟩
          | some f =>
            obtain ⟨c, a⟩ := f
            have hc0 : (c != 0) = true := by have := HCF.out c a rfl; simpa using this
            simp only [codeOf, placeOf]
            go_wp2_with (first
              | (go_at_call 16; go_loud (refine (isFault_u _ wa.heap.size _ (some (c, a)) HCF.out FB3.out).mono ?_; rintro e w6 ⟨rfl, rfl⟩))
              | (go_at_call 16; go_loud (refine (isFault_u _ _ ec (some (c, a)) HCF.out (FC.out.below BF.out)).mono ?_; rintro e w6 ⟨rfl, rfl⟩; have FB3 := Lib.hid (FBE2.out.below BF.out)))
              | (go_at_call 20; go_loud (refine (same_any _ _ ts ts _ HOC.out (HW.out.kept BWF.out) (by have := HLN.out; omega) (by have := HLN.out; omega)).mono ?_; rintro e wf ⟨he, hB⟩; rw [decide_eq_true rfl] at he; subst he; have BF := Lib.hid hB; clear hB))
              | (go_at_call 18; go_loud (refine (S1.out _ LE.out).mono ?_; rintro e we ⟨hB, ac, cc1, ec, rfl, hO, hf⟩; have BE := Lib.hid hB; have HOC := Lib.hid (tokAt_of_own hO); have FC := Lib.hid hf; have FBE2 := Lib.hid (FBE.out.below hB); have BWF := Lib.hid (BWE.out.trans (hB.mono BWE.out.size)); clear hO hf; clear hB))
              | (go_at_call 16; go_loud (refine (isFault_u _ wa.heap.size _ (some (c, a)) HCF.out FBD.out).mono ?_; rintro e w6 ⟨rfl, rfl⟩; have FBE := Lib.hid (FBD.out.keep KD.out (fun b h1 _ e => by omega))))
              | (go_at_call 16; go_loud (refine (isFault_u _ w9.heap.size _ (some (c, a)) HCF.out (FA.out.below BAD.out)).mono ?_; rintro e w6 ⟨rfl, rfl⟩; have FBD := Lib.hid (FB.out.below BD.out)))
              | (go_at_call 20; go_loud (refine (same_any _ _ ts ts _ (HOB.out.kept BC.out) (HW.out.kept (BWB.out.trans (BC.out.mono BWB.out.size))) (by have := HLN.out; omega) (by have := HLN.out; omega)).mono ?_; rintro e wd ⟨he, hB⟩; rw [decide_eq_true rfl] at he; subst he; have BD := Lib.hid (BC.out.trans (hB.mono BC.out.size)); have BWD := Lib.hid (BWB.out.trans (BD.out.mono BWB.out.size)); have BAD := Lib.hid (BB.out.trans (BD.out.mono BB.out.size)); have q4 := (BAD.out.block bA q2).trans Q3.out; have z0 : wd.cell? ⟨bA, 0, none⟩ = some (.int .i64 c) := (Lib.cell_of_heap q4 _).trans rfl; have z1 : wd.cell? ⟨bA, 1, none⟩ = some (.int .i64 (a : Nat)) := (Lib.cell_of_heap q4 _).trans rfl; have zf : ∀ j, wd.frozen? ⟨bA, j, none⟩ = false := (fun j => by simp [World.frozen?, q4]); have zz : bA < wd.heap.size := World.block_lt_of_cell? _ _ z0; have KD := Lib.hid (fault_keep (w := wd) (b := bA) (.int .i64 (-7)) (.int .i64 7)); have BWE := Lib.hid (KD.out.to_below BWD.out BWD.out.size (fun k e => by have := B9.out.size; omega)); have LE := Lib.hid (HL.out.below (BW.out.trans (BWE.out.mono BW.out.size))); clear q4; clear hB))
              | (go_at_call 20; go_loud (refine (same_any _ _ ts ts _ (HOA.out.kept BB.out) (HW.out.kept BWB.out) (by have := HLN.out; omega) (by have := HLN.out; omega)).mono ?_; rintro e wc ⟨he, hB⟩; rw [decide_eq_true rfl] at he; subst he; have BC := Lib.hid hB; clear hB))
              | (go_at_call 18; go_loud (refine (S1.out _ LA.out).mono ?_; rintro e wb ⟨hB, ab, cb1, eb, rfl, hO, bB, rfl, r1, r2, r3⟩; have BB := Lib.hid hB; have HOB := Lib.hid (tokAt_of_own hO); have BWB := Lib.hid (B9.out.trans ((BA.out.trans (hB.mono BA.out.size)).mono B9.out.size)); have FB := Lib.hid (show FltAt wb wa.heap.size (.iface 47 (.pointer (some ⟨bB, 0, none⟩))) (some (c, a)) from ⟨bB, rfl, r1, r2, r3⟩); clear r3; clear hO; clear hB))
              | (go_at_call 18; go_loud (refine (S1.out _ L9.out).mono ?_; rintro e wa ⟨hB, aa, ca1, ea, rfl, hO, bA, rfl, q1, q2, q3⟩; have BA := Lib.hid hB; have HOA := Lib.hid (tokAt_of_own hO); have LA := Lib.hid (L9.out.below hB); have FA := Lib.hid (show FltAt wa w9.heap.size (.iface 47 (.pointer (some ⟨bA, 0, none⟩))) (some (c, a)) from ⟨bA, rfl, q1, q2, q3⟩); have Q3 := Lib.hid q3; clear q3; clear hO; clear hB))
              | (go_at_call 23; go_loud (refine XA.out.mono ?_; rintro e w9 ⟨rfl, hk9⟩; have B9 := Lib.hid (HC.out.after hk9); have L9 := Lib.hid (HL.out.below (BW.out.trans (B9.out.mono BW.out.size))); clear hk9)))
            go_ret
            exact ⟨rfl, BW.out.trans ((BWF.out.trans (BF.out.mono BWF.out.size)).mono BW.out.size)⟩

end Go.Proofs.YthcdmnndhjbbfaaDoor.X
