/-
  The walk of show.shape: it answers the fault that formSpec says.
-/
import Derived.Test.YtghhnnbbjlipcaaGreatDoorShapeL
import Derived.Test.YtghhnnbbjlipcaaGreatDoorFault
import Derived.Deep.DeepFit
set_option linter.unusedVariables false
set_option linter.unusedSimpArgs false
namespace Go.Proofs.YtghhnnbbjlipcaaGreatDoor.H
open Go.RowKit Go.Proofs.YtghhnnbbjlipcaaGreatDoorW.PrintWords Go.Proofs.YtghhnnbbjlipcaaGreatDoorW.PrintLast Go.Proofs.YtghhnnbbjlipcaaGreatDoor.P
theorem partFits_c (p : Pt) (A : Option Addr) (c : Nat) (w : World) (hr : Kd.C (Kd.int .i64) w A p.f3.length p.f3) (hc : p.f3.length ≤ c) :
    Calls Tryz.prog 59 #[.agg #[.int .i64 p.f0, .string p.f1, .int .i64 p.f2, .slice A p.f3.length c]] w fun e w' => e = .returned (.bool (partFitsB p)) ∧ Below w.heap.size w w' :=
  show_partFits.calls 6 _ _ _ _ _ _ _ w hr hc (partFits_eq p)
theorem kidFits_c (a b : Int) (w : World) : Calls Tryz.prog 60 #[.int .i64 a, .int .i64 b] w fun e w' => e = .returned (.bool (kidFitsB a b)) ∧ ∃ n, w' = w.drewN n :=
  (show_kidFits.calls 2 a b _ w (kidFits_eq a b)).mono fun _ _ h => ⟨h.1, h.2.out⟩
theorem isCondition_c (a : Int) (w : World) : Calls Tryz.prog 61 #[.int .i64 a] w fun e w' => e = .returned (.bool (condB a)) ∧ ∃ n, w' = w.drewN n :=
  (show_isCondition.calls a _ w (isCondition_eq a)).mono fun _ _ h => ⟨h.1, h.2.out⟩

theorem C_int_at {k : IntKind} {w : World} {A : Option Addr} {n : Nat} {xs : List Int} (h : Kd.C (Kd.int k) w A n xs) (j : Nat) (hj : j < n) :
    ∃ ad x, A = some ad ∧ xs.getD j 0 = x ∧ w.cell? (ad.add j) = some (.int k x) := by
  obtain ⟨ad, c, e, _, hK, hc⟩ := Kd.C_get h 0 (j : Int) (by omega) (by omega)
  have : c = [.int k (xs.getD j 0)] := hK
  subst this
  have := hc 0 _ rfl
  exact ⟨ad, _, e, rfl, by simpa [Kd.int, Kd.scalar] using this⟩

theorem R_shape {α : Type} {d : Kd α} {e : Nat} {w : World} {base : Nat} {ok : Nat → Prop} {v : Value} {xs : List α} (h : Kd.R d e w base ok v xs) :
    (v = .slice none 0 0 ∧ xs = []) ∨ ∃ g c, v = .slice (some ⟨g, 0, none⟩) xs.length c ∧ xs.length ≤ c ∧ c ≤ maxLen := by
  obtain ⟨inner, ho⟩ := Kd.R_own h
  rcases ho.2 with ⟨hv, hn⟩ | ⟨g, cap, cur, hv, _, _, hc, hm, _⟩
  · exact .inl ⟨hv, List.length_eq_zero_iff.1 hn⟩
  · exact .inr ⟨g, cap, hv, hc, hm⟩

/-- A call that answers an error (or none). -/
def Errs (w : World) (o : Option (Int × Int)) (e : Ending) (w' : World) : Prop := ∃ v, e = .returned v ∧ ErrIs w' v o ∧ Below w.heap.size w w'

set_option maxHeartbeats 4000000 in
set_option maxRecDepth 100000 in
theorem show_shape (A0 : Option Addr) (c0 : Nat) (l0 : List Pt) (w : World) (hr : Kd.C k45 w A0 l0.length l0) (hc : l0.length ≤ c0) :
    Calls Tryz.prog 40 #[.slice A0 l0.length c0] w (Errs w (formSpec l0)) := by
  by_cases h0 : l0.length = 0
  · have e0 : formSpec l0 = some (130, 0) := by simp [formSpec, h0]
    rw [e0]
    have hb : ((l0.length : Int) == 0) = true := by simp [h0]
    have HR := Lib.hid hr
    clear hr hc h0 e0
    go_enter Tryz.func40, Tryz.ntmps40
    go_wp2_with (go_at_call 38; refine (show_fault _ _ _).mono ?_; rintro e w1 ⟨rfl, rfl⟩)
    go_ret
    exact ⟨_, rfl, ErrIs.new _ _ _ rfl, (Below.refl _ _).alloc (Nat.le_refl _) _⟩
  · by_cases h1 : 1000 < l0.length
    · have e0 : formSpec l0 = some (130, 1000) := by simp [formSpec, h0, h1]
      rw [e0]
      have hb : ((l0.length : Int) == 0) = false := by simpa using h0
      have hb2 : (1000 : Int) < (l0.length : Int) := by omega
      have HR := Lib.hid hr
      clear hr hc h0 e0
      go_enter Tryz.func40, Tryz.ntmps40
      go_wp2_with (go_at_call 38; refine (show_fault _ _ _).mono ?_; rintro e w1 ⟨rfl, rfl⟩)
      go_ret
      exact ⟨_, rfl, ErrIs.new _ _ _ rfl, (Below.refl _ _).alloc (Nat.le_refl _) _⟩
    · have e0 : formSpec l0 = formGo l0 l0 0 [] := by simp [formSpec, h0, h1]
      rw [e0]
      have hb : ((l0.length : Int) == 0) = false := by simpa using h0
      have hb2 : (l0.length : Int) ≤ 1000 := by omega
      have hb3 : decide ((1000 : Int) < (l0.length : Int)) = false := by simp; omega
      obtain ⟨ad, _, _, rfl, -⟩ := at_T45 hr 0 (by omega) (by omega)
      have H0 := Lib.hid h0
      clear h0 h1 e0
      have HR := Lib.hid hr
      have HC := Lib.hid hc
      clear hr hc
      go_enter Tryz.func40, Tryz.ntmps40
      go_wp2
      go_loopw [3, 20] (fun v i wr => ∃ (k : Nat) (free : List Int), k ≤ l0.length ∧ i = .int .i64 k ∧ Hid (Kd.R (Kd.int .i64) 3 wr w.heap.size (fun _ => True) v free) ∧ Hid (formGo l0 (l0.drop k) k free = formGo l0 l0 0 []) ∧ Hid (free.length ≤ k ∧ ∀ y ∈ free, 0 ≤ y ∧ y < (k : Int)) ∧ Below w.heap.size w wr) (fun _ i _ => l0.length - (intOf i).toNat)
      case atStart => exact ⟨0, [], Nat.zero_le _, rfl, Lib.hid (Kd.R_nil _ _ _ _ _), Lib.hid rfl, Lib.hid ⟨Nat.le_refl _, fun y hy => by cases hy⟩, Below.refl _ _⟩
      case round =>
        obtain ⟨k, free, hk, rfl, HF, HG, HL, hbel⟩ := hrel
        by_cases hlt : k < l0.length
        · have hltB : decide ((k : Int) < (l0.length : Int)) = true := by simp; omega
          obtain ⟨ad', A3, c3, hA, e0, e1, e2, e3, l3, g3⟩ := at_T45 (Kd.C_below HR.out hbel) k (by omega) (by omega)
          obtain rfl : ad = ad' := Option.some.inj hA
          clear hA
          rw [Int.toNat_natCast] at e0 e1 e2 e3
          generalize hp : rd_T45 l0 (k : Int) = p at *
          have HP := Lib.hid hp
          clear hp
          have L3 := Lib.hid l3
          have G3 := Lib.hid g3
          clear l3 g3
          obtain ⟨AF, cF, rfl, hcF, hCF⟩ := Kd.R_reads HF.out
          have HCF := Lib.hid hcF
          have HRF := Lib.hid hCF
          clear hcF hCF
          have hfl : (free.length : Int) ≤ 1000 := by have := HL.out.1; omega
          cases hpf : partFitsB p with
          | false =>
            have hs : stepB l0 (rd_T45 l0 (k : Int)) free = false := by rw [HP.out]; simp [stepB, hpf]
            have HE := Lib.hid (HG.out.symm.trans (formGo_no l0 k free hlt hs))
            have PC := Lib.hid (partFits_c p A3 c3)
            rw [hpf] at PC
            clear hpf hs
            go_wp2_with (first | (go_at_call 59; refine (PC.out _ (Kd.C_below G3.out ((Below.refl _ _).alloc (Nat.le_refl _) _)) L3.out).mono ?_; rintro e w1 ⟨rfl, hb1⟩) | (go_at_call 38; refine (show_fault _ _ _).mono ?_; rintro e w2 ⟨rfl, rfl⟩))
            go_ret
            rw [HE.out]
            exact ⟨_, rfl, ErrIs.new _ _ _ rfl, (hbel.trans (((Below.refl _ _).alloc hbel.size _).trans (hb1.mono (by have := hbel.size; simp; omega)))).alloc (by have := hbel.size; have := hb1.size; simp at this; omega) _⟩
          | true =>
            have PC := Lib.hid (partFits_c p A3 c3)
            rw [hpf] at PC
            by_cases hmf : free.length < p.f3.length
            · have hmB : decide (free.length < p.f3.length) = true := by simp; omega
              have hs : stepB l0 (rd_T45 l0 (k : Int)) free = false := by rw [HP.out]; simp [stepB]; omega
              have HE := Lib.hid (HG.out.symm.trans (formGo_no l0 k free hlt hs))
              clear hpf hs hmf
              have kc : ∀ (w1 : World), Below (wr.heap.size + 1) (wr.alloc (.cells #[.int .i64 p.f0, .string p.f1, .int .i64 p.f2, .slice A3 p.f3.length c3] 45)) w1 → w1.cell? ⟨wr.heap.size, 3, none⟩ = some (.slice A3 p.f3.length c3) := fun w1 hb => by
                rw [hb.cell (p := ⟨wr.heap.size, 3, none⟩) (by simp)]; simp
              go_wp2_with (first | (go_at_call 59; refine (PC.out _ (Kd.C_below G3.out ((Below.refl _ _).alloc (Nat.le_refl _) _)) L3.out).mono ?_; rintro e w1 ⟨rfl, hb1⟩; have hc3 := kc w1 (by simpa using hb1)) | (go_at_call 38; refine (show_fault _ _ _).mono ?_; rintro e w2 ⟨rfl, rfl⟩))
              go_ret
              rw [HE.out]
              exact ⟨_, rfl, ErrIs.new _ _ _ rfl, (hbel.trans (((Below.refl _ _).alloc hbel.size _).trans (hb1.mono (by have := hbel.size; simp; omega)))).alloc (by have := hbel.size; have := hb1.size; simp at this; omega) _⟩
            · have hmB : decide (free.length < p.f3.length) = false := by simp; omega
              obtain ⟨b, hbn⟩ : ∃ b, b = free.length - p.f3.length := ⟨_, rfl⟩
              have hbase : (free.length : Int) - (p.f3.length : Int) = (b : Int) := by omega
              have hbl : b + p.f3.length ≤ 1000 := by omega
              have HBN := Lib.hid hbn
              have HM := Lib.hid hmf
              clear hbn hmf
              have kc : ∀ (w1 : World), Below (wr.heap.size + 1) (wr.alloc (.cells #[.int .i64 p.f0, .string p.f1, .int .i64 p.f2, .slice A3 p.f3.length c3] 45)) w1 → w1.cell? ⟨wr.heap.size, 3, none⟩ = some (.slice A3 p.f3.length c3) ∧ w1.cell? ⟨wr.heap.size, 0, none⟩ = some (.int .i64 p.f0) := fun w1 hb => by
                rw [hb.cell (p := ⟨wr.heap.size, 3, none⟩) (by simp), hb.cell (p := ⟨wr.heap.size, 0, none⟩) (by simp)]; simp
              go_wp2_with (first | (go_at_call 59; refine (PC.out _ (Kd.C_below G3.out ((Below.refl _ _).alloc (Nat.le_refl _) _)) L3.out).mono ?_; rintro e w1 ⟨rfl, hb1⟩; obtain ⟨hc3, hc0⟩ := kc w1 (by simpa using hb1)))
              have hb1' : Below wr.heap.size wr w1 := ((Below.refl _ _).alloc (Nat.le_refl _) _).trans (hb1.mono (by simp))
              have HB1 := Lib.hid hb1'
              clear hb1'
              obtain ⟨wo, hwo⟩ : ∃ wo : World, wo = wr := ⟨_, rfl⟩
              subst hwo
              go_loopw [47] (fun j wi => ∃ (jn : Nat), jn ≤ p.f3.length ∧ j = .int .i64 jn ∧ Hid (kidsTo l0 p free jn) ∧ Drawn0 w1 wi) (fun j _ => p.f3.length - (intOf j).toNat)
              case atStart => exact ⟨0, Nat.zero_le _, rfl, Lib.hid (fun i hi => absurd hi (Nat.not_lt_zero i)), Drawn0.refl _⟩
              case round =>
                obtain ⟨jn, hj, rfl, HK, hdr⟩ := hrel
                have hb3' := hdr.below
                have hd0 : wr.cell? ⟨wo.heap.size, 0, none⟩ = some (.int .i64 p.f0) := pw_cell_below hb3' hc0
                have hd3 : wr.cell? ⟨wo.heap.size, 3, none⟩ = some (.slice A3 p.f3.length c3) := pw_cell_below hb3' hc3
                have hb4 : Below wo.heap.size wo wr := below_then HB1.out HB1.out.size hb3'
                have HB4 := Lib.hid hb4
                have HDR := Lib.hid hdr
                clear hb3' hb4 hdr
                by_cases hjlt : jn < p.f3.length
                · have hjB : decide (jn < p.f3.length) = true := by simp; omega
                  obtain ⟨ad3, x, rfl, hx, hcx⟩ := C_int_at (Kd.C_below G3.out HB4.out) jn hjlt
                  obtain ⟨adf, y, rfl, hy, hcy⟩ := C_int_at (Kd.C_below HRF.out HB4.out) (b + jn) (by have := HBN.out; have := HM.out; omega)
                  have hfI : (b : Int) + (jn : Int) < (free.length : Int) := by have := HBN.out; have := HM.out; omega
                  have hb0 : 0 ≤ (b : Int) + (jn : Int) := by omega
                  have hwr : IntKind.i64.wrap ((b : Int) + (jn : Int)) = (b : Int) + (jn : Int) := IntWalk.i64_in _ (by omega)
                  have hbt : ((b : Int) + (jn : Int)).toNat = b + jn := by omega
                  by_cases hxy : x = y
                  · subst hxy
                    have hxr : 0 ≤ x ∧ x < (k : Int) := by
                      refine HL.out.2 x ?_
                      rw [← hy]
                      have hi : b + jn < free.length := by omega
                      simp [List.getD_eq_getElem?_getD, List.getElem?_eq_getElem hi]
                    have hx0 : 0 ≤ x := hxr.1
                    have hx1 : x < (l0.length : Int) := by omega
                    have hxxB : (x != x) = false := by simp
                    have HX := Lib.hid hx
                    have HY := Lib.hid hy
                    clear hx hy hxr
                    obtain ⟨adq, _, _, hA, eq0, -⟩ := at_T45 (Kd.C_below (Kd.C_below HR.out hbel) HB4.out) x hx0 hx1
                    obtain rfl : ad = adq := Option.some.inj hA
                    clear hA
                    generalize hq : (rd_T45 l0 x).f0 = q at *
                    have HQ := Lib.hid hq
                    clear hq
                    cases hkf : kidFitsB p.f0 q with
                    | false =>
                      have KC := Lib.hid (fun W => kidFits_c p.f0 q W)
                      rw [hkf] at KC
                      have hs : stepB l0 (rd_T45 l0 (k : Int)) free = false := by
                        rw [HP.out]
                        refine stepB_bad l0 p free jn hjlt (by have := HM.out; omega) ?_
                        rintro ⟨_, h⟩
                        rw [HX.out, HQ.out, hkf] at h
                        cases h
                      have HE := Lib.hid (HG.out.symm.trans (formGo_no l0 k free hlt hs))
                      clear hkf hs
                      go_wp2_with fail
                      go_quiet ((go_at_call 60; exact Calls.quiet_of (KC.out _)))
                      go_wp2_with (go_at_call 38; refine (show_fault _ _ _).mono ?_; rintro e w2 ⟨rfl, rfl⟩)
                      go_ret
                      rw [HE.out]
                      exact ⟨_, rfl, ErrIs.new _ _ _ rfl, (pw_below_drewN (hbel.trans (HB4.out.mono hbel.size)) _).alloc (by have := hbel.size; have := HB4.out.size; simp; omega) _⟩
                    | true =>
                      have KC := Lib.hid (fun W => kidFits_c p.f0 q W)
                      rw [hkf] at KC
                      have HKF := Lib.hid hkf
                      clear hkf
                      go_wp2_with fail
                      go_quiet ((go_at_call 60; exact Calls.quiet_of (KC.out _)))
                      go_wp2_with fail
                      go_roundw
                      case rel =>
                        refine ⟨jn + 1, by omega, by go_num, Lib.hid ?_, HDR.out.step _⟩
                        intro i hi
                        by_cases hij : i = jn
                        · subst hij
                          rw [HX.out, ← HBN.out, HY.out, HQ.out]
                          exact ⟨rfl, HKF.out⟩
                        · exact HK.out i (by omega)
                      case measure => simp [intOf]; omega
                  · have hxyB : (x != y) = true := by simp [hxy]
                    have HX := Lib.hid hx
                    have HY := Lib.hid hy
                    have hs : stepB l0 (rd_T45 l0 (k : Int)) free = false := by
                      rw [HP.out]
                      refine stepB_bad l0 p free jn hjlt (by have := HM.out; omega) ?_
                      rintro ⟨h, _⟩
                      rw [HX.out, ← HBN.out, HY.out] at h
                      exact hxy h
                    have HE := Lib.hid (HG.out.symm.trans (formGo_no l0 k free hlt hs))
                    clear hx hy hxy hs
                    go_wp2_with fail
                    go_quiet (fail)
                    go_wp2_with (go_at_call 38; refine (show_fault _ _ _).mono ?_; rintro e w2 ⟨rfl, rfl⟩)
                    go_ret
                    rw [HE.out]
                    exact ⟨_, rfl, ErrIs.new _ _ _ rfl, (pw_below_drewN (hbel.trans (HB4.out.mono hbel.size)) _).alloc (by have := hbel.size; have := HB4.out.size; simp; omega) _⟩
                · have hjB : decide (jn < p.f3.length) = false := by simp; omega
                  obtain rfl : jn = p.f3.length := by omega
                  have hs : stepB l0 (rd_T45 l0 (k : Int)) free = true := by
                    rw [HP.out]
                    exact stepB_all l0 p free hpf (by have := HM.out; omega) HK.out
                  have HE := Lib.hid ((formGo_yes l0 k free hlt hs).symm.trans HG.out)
                  rw [HP.out] at HE
                  have HF2 : Hid (Kd.R (Kd.int .i64) 3 wr w.heap.size (fun _ => True) (.slice AF free.length cF) free) := Lib.hid (Kd.R_below HF.out HB4.out)
                  have hbel2 : Below w.heap.size w wr := hbel.trans (HB4.out.mono hbel.size)
                  have hlen : (stepF p k free).length ≤ k + 1 := by
                    have := HL.out.1; simp [stepF]; omega
                  have hmem : ∀ y ∈ stepF p k free, 0 ≤ y ∧ y < ((k + 1 : Nat) : Int) := by
                    intro y hy
                    rcases List.mem_append.1 hy with hy | hy
                    · have := HL.out.2 y (List.mem_of_mem_take hy); omega
                    · have := List.mem_singleton.1 hy; omega
                  have HL2 := Lib.hid (And.intro hlen hmem)
                  have HB2 := Lib.hid hbel2
                  have hbf : b ≤ free.length := by have := HBN.out; omega
                  have HBF := Lib.hid hbf
                  have hsz : (free.take b).length + 1 ≤ 1001 := by simp; omega
                  have HSZ := Lib.hid hsz
                  have hst : free.take b ++ [(k : Int)] = stepF p k free := by rw [stepF, ← HBN.out]
                  have HST := Lib.hid hst
                  clear hs hpf hlen hmem hbf hsz hst hbel2
                  have hbI : (b : Int) ≤ (free.length : Int) := by have := HBF.out; omega
                  rcases R_shape HF2.out with ⟨hv, hf0⟩ | ⟨g, cap, hv, hcap, _⟩
                  · injection hv with hv1 hv2 hv3
                    subst hv1 hv3
                    have hb0 : b = 0 := by rw [hf0] at hbI; simp at hbI; omega
                    subst hb0
                    have HF0 := Lib.hid hf0
                    clear hf0 hv2
                    go_wp2_with (at_builtin; go_must (refine Kd.R_append (Kd.int .i64) w.heap.size rfl (.tmp 76) (.tmp 78) 26 3 (.int .i64 0) 8 rfl Tryz.underlying26 info3 rfl (by decide) (by decide) (.slice none 0 0) [] (k : Int) [.int .i64 k] (fun _ => True) (fun _ => False) rfl rfl rfl (fun _ h => h.elim) (fun _ _ => trivial) (Kd.R_nil _ _ _ _ _) HB2.out HB2.out.size (by simp) ?_); intro v1 w5 HO1 HB5 hg5 hat5)
                    rw [show ([] : List Int) ++ [(k : Int)] = stepF p k free from HST.out] at HO1
                    exact ⟨⟨k + 1, stepF p k free, by omega, by go_num, Lib.hid HO1, HE, HL2, HB5⟩, by simp [intOf]; omega⟩
                  · injection hv with hv1 hv2 hv3
                    subst hv1 hv3
                    have HCAP := Lib.hid hcap
                    clear hcap hv2
                    have hcI : (b : Int) ≤ (cF : Int) := by have := HCAP.out; omega
                    go_wp2_with (at_builtin; go_must (refine Kd.R_append (Kd.int .i64) w.heap.size rfl (.tmp 76) (.tmp 78) 26 3 (.int .i64 0) 8 rfl Tryz.underlying26 info3 rfl (by decide) (by decide) (.slice (some ⟨g, 0, none⟩) b cF) (free.take b) (k : Int) [.int .i64 k] (fun _ => True) (fun _ => False) rfl rfl rfl (fun _ h => h.elim) (fun _ _ => trivial) (Kd.R_take HF2.out HBF.out) HB2.out HB2.out.size (by have := HSZ.out; omega) ?_); intro v1 w5 HO1 HB5 hg5 hat5)
                    rw [HST.out] at HO1
                    exact ⟨⟨k + 1, stepF p k free, by omega, by go_num, Lib.hid HO1, HE, HL2, HB5⟩, by simp [intOf]; omega⟩
        · have hltB : decide (k < l0.length) = false := by simp; omega
          obtain rfl : k = l0.length := by omega
          obtain ⟨AF, cF, rfl, hcF, hCF⟩ := Kd.R_reads HF.out
          have HCF := Lib.hid hcF
          have HRF := Lib.hid hCF
          clear hcF hCF
          have hn0 : 0 < l0.length := by have := H0.out; omega
          have hn1 : (0 : Int) ≤ (l0.length : Int) - 1 := by omega
          have hn2 : (l0.length : Int) - 1 < (l0.length : Int) := by omega
          obtain ⟨adq, _, _, hA, eq0, -⟩ := at_T45 (Kd.C_below HR.out hbel) ((l0.length : Int) - 1) hn1 hn2
          obtain rfl : ad = adq := Option.some.inj hA
          clear hA
          rw [show ((l0.length : Int) - 1).toNat = l0.length - 1 by omega] at eq0
          have hG := HG.out
          rw [List.drop_length] at hG
          generalize hq : (rd_T45 l0 ((l0.length : Int) - 1)).f0 = q at *
          have HQ := Lib.hid hq
          clear hq
          have KC := Lib.hid (fun W => isCondition_c q W)
          simp only [formGo, HQ.out] at hG
          cases hcd : condB q with
          | false =>
            rw [hcd] at KC hG
            have HE := Lib.hid hG
            clear hcd hG
            go_wp2_with (first | (go_at_call 61; refine (KC.out _).mono ?_; rintro e w1 ⟨rfl, nd, rfl⟩) | (go_at_call 38; refine (show_fault _ _ _).mono ?_; rintro e w2 ⟨rfl, rfl⟩))
            go_ret
            rw [← HE.out]
            exact ⟨_, rfl, ErrIs.new _ _ _ rfl, (pw_below_drewN hbel _).alloc (by have := hbel.size; simp; omega) _⟩
          | true =>
            rw [hcd] at KC hG
            by_cases hf1 : free.length = 1
            · have hfB : ((free.length : Int) != 1) = false := by simp [hf1]
              have HE : Hid (none = formGo l0 l0 0 []) := Lib.hid (by rw [← hG]; simp [hf1])
              clear hcd hG hf1
              go_wp2_with (first | (go_at_call 61; refine (KC.out _).mono ?_; rintro e w1 ⟨rfl, nd, rfl⟩) | (go_at_call 38; refine (show_fault _ _ _).mono ?_; rintro e w2 ⟨rfl, rfl⟩))
              go_ret
              rw [← HE.out]
              exact ⟨_, rfl, rfl, pw_below_drewN hbel _⟩
            · have hfB : ((free.length : Int) != 1) = true := by simp; omega
              have HE : Hid (some (130, (l0.length : Int) - 1) = formGo l0 l0 0 []) := Lib.hid (by rw [← hG]; simp [hf1])
              clear hcd hG hf1
              go_wp2_with (first | (go_at_call 61; refine (KC.out _).mono ?_; rintro e w1 ⟨rfl, nd, rfl⟩) | (go_at_call 38; refine (show_fault _ _ _).mono ?_; rintro e w2 ⟨rfl, rfl⟩))
              go_ret
              rw [← HE.out]
              exact ⟨_, rfl, ErrIs.new _ _ _ rfl, (pw_below_drewN hbel _).alloc (by have := hbel.size; simp; omega) _⟩

end Go.Proofs.YtghhnnbbjlipcaaGreatDoor.H
