/-
  The writer's list, selector, term, part.
-/
import Derived.Test.YtghhnnbbjlipcaaGreatDoorWrite
import Derived.Test.YtghhnnbbjlipcaaGreatDoorShape
import Derived.Test.YtghhnnbbjlipcaaGreatDoorKWords
set_option linter.unusedVariables false
set_option linter.unusedSimpArgs false
namespace Go.Proofs.YtghhnnbbjlipcaaGreatDoor.H
open Go.RowKit Go.Proofs.YtghhnnbbjlipcaaGreatDoorW.PrintWords Go.Proofs.YtghhnnbbjlipcaaGreatDoorW.PrintLast Go.Proofs.YtghhnnbbjlipcaaGreatDoor.P
theorem gTab : Tryz.prog.globalNamed "internal/strconv.uint64pow10" = some 0 := by kernel_rfl
/-- The writer is ready: its block, the parts that it reads (below base), the library's table. -/
structure Rdy (base b : Nat) (A : Option Addr) (c : Nat) (l0 : List Pt) (bs : Bs) (w : World) : Prop where
  isw : IsW w base b (.slice A l0.length c) bs
  parts : Kd.F k45 w (fun k => k < base) A l0.length l0
  size : base ≤ w.heap.size
  tab : Lib.TabIs Tryz.prog w "internal/strconv.uint64pow10" .u64 Lib.pow10Tab
  big : 0 < base
theorem Rdy.next {base b : Nat} {A : Option Addr} {c : Nat} {l0 : List Pt} {bs bs' : Bs} {w w' : World} (h : Rdy base b A c l0 bs w) (k : KW base b w w') (i : IsW w' base b (.slice A l0.length c) bs') : Rdy base b A c l0 bs' w' :=
  ⟨i, Kd.F_step h.parts (fun j hj _ => k.bel.block j hj), Nat.le_trans h.size k.bel.size, var?_below k.bel gTab h.big h.tab, h.big⟩
theorem Rdy.frame {base b : Nat} {A : Option Addr} {c : Nat} {l0 : List Pt} {bs : Bs} {w w' : World} (h : Rdy base b A c l0 bs w) (k : Below w.heap.size w w') : Rdy base b A c l0 bs w' :=
  h.next (.of_below k h.size) (h.isw.below k)
/-- What a writing call comes to. -/
def Wrote (base b : Nat) (A : Option Addr) (c : Nat) (l0 : List Pt) (bs : Bs) (w : World) (e : Ending) (w' : World) : Prop :=
  e = .returned (.tuple #[]) ∧ IsW w' base b (.slice A l0.length c) bs ∧ KW base b w w'
/-- The part at a place writes f's text. -/
def PartOk (base b : Nat) (A : Option Addr) (c : Nat) (l0 : List Pt) (f : Int → Bs) (at_ : Int) : Prop :=
  ∀ (w : World) (bs : Bs), Rdy base b A c l0 bs w → bs.length + (f at_).length ≤ 140737488355328 →
    Calls Tryz.prog 36 #[.pointer (some ⟨b, 0, none⟩), .int .i64 at_] w (Wrote base b A c l0 (bs ++ f at_) w)

theorem addr_zero (a : Addr) : a.add 0 = a := by unfold Addr.add; split <;> simp_all
theorem bracketed_c (x y : Int) (w : World) : Calls Tryz.prog 62 #[.int .i64 x, .int .i64 y] w fun e w' => e = .returned (.bool (brackB x y)) ∧ ∃ n, w' = w.drewN n :=
  (show_bracketed.calls 2 x y _ w (bracketed_eq x y)).mono fun _ _ h => ⟨h.1, h.2.out⟩

/-- put of one piece, which lies in block g. -/
theorem put1 (base b g : Nat) (A : Option Addr) (c : Nat) (l0 : List Pt) (bs : Bs) (s : ByteArray) (w : World) (h : Rdy base b A c l0 bs w) (hg : w.heap[g]? = some (.cells #[.string s] 9 (0, 0))) (hgb : g ≠ b) (hlen : bs.length + s.data.toList.length ≤ 140737488355328) :
    Calls Tryz.prog 54 #[.pointer (some ⟨b, 0, none⟩), .slice (some ⟨g, 0, none⟩) 1 1] w (Wrote base b A c l0 (bs ++ s.data.toList) w) := by
  refine (put_any base b g (.slice A l0.length c) bs [s] _ h.isw hg hgb (by simp) (by simpa [flat] using hlen) h.size).mono ?_
  rintro e w' ⟨rfl, h1, h2⟩
  exact ⟨rfl, by simpa [flat] using h1, h2⟩

set_option maxHeartbeats 4000000 in
set_option maxRecDepth 100000 in
theorem list_any (base b : Nat) (A : Option Addr) (c : Nat) (l0 : List Pt) (f : Int → Bs) (p : Pt) (sep : ByteArray) (A3 : Option Addr) (c3 : Nat) (bs : Bs) (w : World) (h : Rdy base b A c l0 bs w)
    (h3 : Kd.F (Kd.int .i64) w (fun k => k < base) A3 p.f3.length p.f3) (hk : ∀ k ∈ p.f3, 0 ≤ k ∧ k < (l0.length : Int) ∧ PartOk base b A c l0 f k) (hn : p.f3.length ≤ 1000) (hn0 : l0.length ≤ 1000)
    (hlen : bs.length + (joinT l0 p sep.data.toList f p.f3).length ≤ 140737488355328) :
    Calls Tryz.prog 55 #[.pointer (some ⟨b, 0, none⟩), .agg #[.int .i64 p.f0, .string p.f1, .int .i64 p.f2, .slice A3 p.f3.length c3], .string sep] w (Wrote base b A c l0 (bs ++ joinT l0 p sep.data.toList f p.f3) w) := by
  have H := Lib.hid h
  have H3 := Lib.hid h3
  have HK := Lib.hid hk
  have HN := Lib.hid hn
  have HL := Lib.hid hlen
  have hbig : base ≤ w.heap.size := h.size
  have hbl := h.isw.lt
  clear h h3 hk hlen hn
  have hnI : (p.f3.length : Int) ≤ 1000 := by have := HN.out; omega
  go_enter Tryz.func55, Tryz.ntmps55
  go_wp2
  go_loopw [11] (fun i wr => ∃ k : Nat, k ≤ p.f3.length ∧ i = .int .i64 k ∧ Hid (IsW wr base b (.slice A l0.length c) (bs ++ joinT l0 p sep.data.toList f (p.f3.take k))) ∧ Hid (KW base b (w.alloc (.cells #[.int .i64 p.f0, .string p.f1, .int .i64 p.f2, .slice A3 p.f3.length c3] 45)) wr)) (fun i _ => p.f3.length - (intOf i).toNat)
  case atStart => exact ⟨0, Nat.zero_le _, rfl, Lib.hid (by simpa [joinT] using H.out.isw.below ((Below.refl _ _).alloc (Nat.le_refl _) _)), Lib.hid (KW.refl _ _ _)⟩
  case round =>
    obtain ⟨k, hkn, rfl, HI, HW⟩ := hrel
    have hKW : KW base b w wr := ((KW.refl _ _ _).alloc H.out.size _).trans HW.out
    have hR : Rdy base b A c l0 (bs ++ joinT l0 p sep.data.toList f (p.f3.take k)) wr := H.out.next hKW HI.out
    have hbox : wr.heap[w.heap.size]? = some (.cells #[.int .i64 p.f0, .string p.f1, .int .i64 p.f2, .slice A3 p.f3.length c3] 45 (0, 0)) :=
      HW.out.block (Go.heap_alloc_new _ _) (by omega) (by decide)
    have hd0 : wr.cell? ⟨w.heap.size, 0, none⟩ = some (.int .i64 p.f0) := by rw [Lib.cell_of_heap hbox]; rfl
    have HBOX := Lib.hid hbox
    clear hbox
    have HKW := Lib.hid hKW
    have HR := Lib.hid hR
    clear hKW
    by_cases hlt : k < p.f3.length
    · have hB : decide (k < p.f3.length) = true := by simp; omega
      obtain ⟨ad3, x, rfl, hx, hcx⟩ := C_int_at (Kd.F_now (Kd.F_step H3.out (fun j hj _ => HKW.out.bel.block j hj))) k hlt
      have hxe : p.f3[k] = x := by rw [← hx]; simp [List.getD_eq_getElem?_getD, List.getElem?_eq_getElem hlt]
      obtain ⟨hx0, hx1, hxp⟩ := HK.out x (by rw [← hxe]; exact List.getElem_mem hlt)
      have HXP := Lib.hid hxp
      have HJ := Lib.hid (joinT_succ l0 p sep.data.toList f p.f3 k hlt)
      have hle := joinT_take_le l0 p sep.data.toList f p.f3 (k + 1)
      have HLE := Lib.hid hle
      have HX := Lib.hid hxe
      clear hx hxe hxp hle
      by_cases hk0 : k = 0
      · subst hk0
        have HRW := HR
        have HWW := HW
        have hj0 : ((if (0 : Nat) = 0 then ([] : Bs) else sep.data.toList) ++ oneT l0 p f p.f3[0]) = oneT l0 p f p.f3[0] := by simp
        have HL2 : Hid ((bs ++ joinT l0 p sep.data.toList f (p.f3.take 0)).length + (oneT l0 p f x).length ≤ 140737488355328) := Lib.hid (by have h1 := HLE.out; have h2 := HL.out; rw [HJ.out, HX.out] at h1; simp at h1 ⊢; omega)
        have HDEC := Lib.hid (trivial : True)
        have hcx0 : wr.cell? ad3 = some (.int .i64 x) := by rw [addr_zero] at hcx; exact hcx
        clear hj0 hR
        have e0 : wr.cell? ⟨w.heap.size, 0, none⟩ = some (.int .i64 p.f0) := by rw [Lib.cell_of_heap (HWW.out.block (Go.heap_alloc_new _ _) (by omega) (by decide))]; rfl
        have e1 := HRW.out.isw.c0
        obtain ⟨adq, _, _, hA, eq0, -⟩ := at_T45 (Kd.F_now HRW.out.parts) x hx0 hx1
        subst hA
        generalize hq : (rd_T45 l0 x).f0 = q at *
        have HQ := Lib.hid hq
        clear hq
        have hdec := HDEC.out
        cases hbr : brackB p.f0 q with
        | false =>
          have BC := Lib.hid (fun W => bracketed_c p.f0 q W)
          rw [hbr] at BC
          have HO : Hid (oneT l0 p f x = f x) := Lib.hid (by simp [oneT, HQ.out, hbr])
          have hll : (bs ++ joinT l0 p sep.data.toList f (p.f3.take 0)).length + (f x).length ≤ 140737488355328 := by have := HL2.out; rw [HO.out] at this; exact this
          have HLL := Lib.hid hll
          clear hbr hll hdec
          go_wp2_with fail
          go_quiet ((go_at_call 62; exact Calls.quiet_of (BC.out _)))
          go_wp2_with (go_at_call 36; refine (HXP.out _ _ (HRW.out.frame (pw_below_drewN (Below.refl _ _) _)) HLL.out).mono ?_; rintro e w5 ⟨rfl, i5, k5⟩)
          go_roundw
          case rel => exact ⟨0 + 1, by omega, by go_num, Lib.hid (by rw [HJ.out, HX.out, HO.out]; simpa [List.append_assoc] using i5), Lib.hid (HWW.out.trans (((KW.refl _ _ _).drewN _).trans k5))⟩
          case measure => simp [intOf]; omega
        | true =>
          have BC := Lib.hid (fun W => bracketed_c p.f0 q W)
          rw [hbr] at BC
          have HO : Hid (oneT l0 p f x = 40 :: (f x ++ [41])) := Lib.hid (by simp [oneT, HQ.out, hbr])
          have hll : (bs ++ joinT l0 p sep.data.toList f (p.f3.take 0)).length + ((f x).length + 2) ≤ 140737488355328 := by have := HL2.out; rw [HO.out] at this; simp at this ⊢; omega
          have HLL := Lib.hid hll
          clear hbr hll hdec
          go_wp2_with fail
          go_quiet ((go_at_call 62; exact Calls.quiet_of (BC.out _)))
          go_wp2_with fail
          have R1 : Hid (Rdy base b (some adq) c l0 (bs ++ joinT l0 p sep.data.toList f (p.f3.take 0)) ((wr.alloc (.cells #[.string ⟨#[40]⟩] 9)).drewN nq)) := Lib.hid (HRW.out.frame (pw_below_drewN ((Below.refl _ _).alloc (Nat.le_refl _) _) _))
          refine (put1 base b wr.heap.size (some adq) c l0 (bs ++ joinT l0 p sep.data.toList f (p.f3.take 0)) ⟨#[40]⟩ _ R1.out (Go.heap_alloc_new _ _) (by have := HRW.out.isw.lt; omega) (by have := HLL.out; simp at this ⊢; omega)).mono ?_
          rintro e w5 ⟨rfl, i5, k5⟩
          have R2 := Lib.hid (R1.out.next k5 i5)
          clear i5
          go_wp2_with (go_at_call 36; refine (HXP.out _ _ R2.out (by have := HLL.out; simp at this ⊢; omega)).mono ?_; rintro e w6 ⟨rfl, i6, k6⟩)
          have R3 := Lib.hid (R2.out.next k6 i6)
          clear i6
          go_wp2_with fail
          have R4 : Hid (Rdy base b (some adq) c l0 ((bs ++ joinT l0 p sep.data.toList f (p.f3.take 0)) ++ [40] ++ f x) (w6.alloc (.cells #[.string ⟨#[41]⟩] 9))) := Lib.hid (R3.out.frame ((Below.refl _ _).alloc (Nat.le_refl _) _))
          refine (put1 base b w6.heap.size (some adq) c l0 _ ⟨#[41]⟩ _ R4.out (Go.heap_alloc_new _ _) (by have := R3.out.isw.lt; omega) (by have := HLL.out; simp at this ⊢; omega)).mono ?_
          rintro e w7 ⟨rfl, i7, k7⟩
          go_wp2_with fail
          go_roundw
          case rel => exact ⟨0 + 1, by omega, by go_num, Lib.hid (by rw [HJ.out, HX.out, HO.out]; simpa [List.append_assoc] using i7), Lib.hid (HWW.out.trans ((((KW.refl _ _ _).alloc HRW.out.size _).drewN _).trans (k5.trans (k6.trans (((KW.refl _ _ _).alloc R3.out.size _).trans k7)))))⟩
          case measure => simp [intOf]; omega
      · have hkB : decide (0 < k) = true := by simp; omega
        have hlsep : (bs ++ joinT l0 p sep.data.toList f (p.f3.take k)).length + sep.data.toList.length + (oneT l0 p f x).length ≤ 140737488355328 := by
          have h1 := HLE.out; have h2 := HL.out; rw [HJ.out, HX.out, if_neg hk0] at h1; simp only [List.length_append] at h1 ⊢; omega
        have HLS := Lib.hid hlsep
        have HK0 := Lib.hid hk0
        clear hk0 hlsep hR
        go_wp2_with fail
        have R1 : Hid (Rdy base b A c l0 (bs ++ joinT l0 p sep.data.toList f (p.f3.take k)) (wr.alloc (.cells #[.string sep] 9))) := Lib.hid (HR.out.frame ((Below.refl _ _).alloc (Nat.le_refl _) _))
        refine (put1 base b wr.heap.size A c l0 _ sep _ R1.out (Go.heap_alloc_new _ _) (by have := HR.out.isw.lt; omega) (by have := HLS.out; omega)).mono ?_
        rintro e w4 ⟨rfl, i4, k4⟩
        have HRW := Lib.hid (R1.out.next k4 i4)
        have HWW := Lib.hid (HW.out.trans (((KW.refl base b _).alloc HR.out.size _).trans k4))
        clear i4
        have HL2 : Hid ((bs ++ joinT l0 p sep.data.toList f (p.f3.take k) ++ sep.data.toList).length + (oneT l0 p f x).length ≤ 140737488355328) := Lib.hid (by have := HLS.out; simp only [List.length_append] at this ⊢; omega)
        have HDEC := Lib.hid (trivial : True)
        rw [if_neg HK0.out] at HJ
        have e0 : w4.cell? ⟨w.heap.size, 0, none⟩ = some (.int .i64 p.f0) := by rw [Lib.cell_of_heap (HWW.out.block (Go.heap_alloc_new _ _) (by omega) (by decide))]; rfl
        have e1 := HRW.out.isw.c0
        obtain ⟨adq, _, _, hA, eq0, -⟩ := at_T45 (Kd.F_now HRW.out.parts) x hx0 hx1
        subst hA
        generalize hq : (rd_T45 l0 x).f0 = q at *
        have HQ := Lib.hid hq
        clear hq
        have hdec := HDEC.out
        cases hbr : brackB p.f0 q with
        | false =>
          have BC := Lib.hid (fun W => bracketed_c p.f0 q W)
          rw [hbr] at BC
          have HO : Hid (oneT l0 p f x = f x) := Lib.hid (by simp [oneT, HQ.out, hbr])
          have hll : (bs ++ joinT l0 p sep.data.toList f (p.f3.take k) ++ sep.data.toList).length + (f x).length ≤ 140737488355328 := by have := HL2.out; rw [HO.out] at this; exact this
          have HLL := Lib.hid hll
          clear hbr hll hdec
          go_wp2_with fail
          go_quiet ((go_at_call 62; exact Calls.quiet_of (BC.out _)))
          go_wp2_with (go_at_call 36; refine (HXP.out _ _ (HRW.out.frame (pw_below_drewN (Below.refl _ _) _)) HLL.out).mono ?_; rintro e w5 ⟨rfl, i5, k5⟩)
          go_roundw
          case rel => exact ⟨k + 1, by omega, by go_num, Lib.hid (by rw [HJ.out, HX.out, HO.out]; simpa [List.append_assoc] using i5), Lib.hid (HWW.out.trans (((KW.refl _ _ _).drewN _).trans k5))⟩
          case measure => simp [intOf]; omega
        | true =>
          have BC := Lib.hid (fun W => bracketed_c p.f0 q W)
          rw [hbr] at BC
          have HO : Hid (oneT l0 p f x = 40 :: (f x ++ [41])) := Lib.hid (by simp [oneT, HQ.out, hbr])
          have hll : (bs ++ joinT l0 p sep.data.toList f (p.f3.take k) ++ sep.data.toList).length + ((f x).length + 2) ≤ 140737488355328 := by have := HL2.out; rw [HO.out] at this; simp at this ⊢; omega
          have HLL := Lib.hid hll
          clear hbr hll hdec
          go_wp2_with fail
          go_quiet ((go_at_call 62; exact Calls.quiet_of (BC.out _)))
          go_wp2_with fail
          have R1 : Hid (Rdy base b (some adq) c l0 (bs ++ joinT l0 p sep.data.toList f (p.f3.take k) ++ sep.data.toList) ((w4.alloc (.cells #[.string ⟨#[40]⟩] 9)).drewN nq)) := Lib.hid (HRW.out.frame (pw_below_drewN ((Below.refl _ _).alloc (Nat.le_refl _) _) _))
          refine (put1 base b w4.heap.size (some adq) c l0 (bs ++ joinT l0 p sep.data.toList f (p.f3.take k) ++ sep.data.toList) ⟨#[40]⟩ _ R1.out (Go.heap_alloc_new _ _) (by have := HRW.out.isw.lt; omega) (by have := HLL.out; simp at this ⊢; omega)).mono ?_
          rintro e w5 ⟨rfl, i5, k5⟩
          have R2 := Lib.hid (R1.out.next k5 i5)
          clear i5
          go_wp2_with (go_at_call 36; refine (HXP.out _ _ R2.out (by have := HLL.out; simp at this ⊢; omega)).mono ?_; rintro e w6 ⟨rfl, i6, k6⟩)
          have R3 := Lib.hid (R2.out.next k6 i6)
          clear i6
          go_wp2_with fail
          have R4 : Hid (Rdy base b (some adq) c l0 ((bs ++ joinT l0 p sep.data.toList f (p.f3.take k) ++ sep.data.toList) ++ [40] ++ f x) (w6.alloc (.cells #[.string ⟨#[41]⟩] 9))) := Lib.hid (R3.out.frame ((Below.refl _ _).alloc (Nat.le_refl _) _))
          refine (put1 base b w6.heap.size (some adq) c l0 _ ⟨#[41]⟩ _ R4.out (Go.heap_alloc_new _ _) (by have := R3.out.isw.lt; omega) (by have := HLL.out; simp at this ⊢; omega)).mono ?_
          rintro e w7 ⟨rfl, i7, k7⟩
          go_wp2_with fail
          go_roundw
          case rel => exact ⟨k + 1, by omega, by go_num, Lib.hid (by rw [HJ.out, HX.out, HO.out]; simpa [List.append_assoc] using i7), Lib.hid (HWW.out.trans ((((KW.refl _ _ _).alloc HRW.out.size _).drewN _).trans (k5.trans (k6.trans (((KW.refl _ _ _).alloc R3.out.size _).trans k7)))))⟩
          case measure => simp [intOf]; omega
    · have hB : decide (k < p.f3.length) = false := by simp; omega
      obtain rfl : k = p.f3.length := by omega
      clear hR
      go_wp2
      go_end0
      have := HI.out
      rw [List.take_length] at this
      exact ⟨rfl, this, HKW.out⟩

end Go.Proofs.YtghhnnbbjlipcaaGreatDoor.H
