/-
  The document's joined, leaf, text, Text: walked.
-/
import Derived.Test.YteeojceloljcbaaDoorQuoteR
import Derived.Test.YteeojceloljcbaaDoorText
import Derived.Test.YteeojceloljcbaaDoorDigitsL
set_option linter.unusedVariables false
set_option linter.unusedSimpArgs false
namespace Go.Proofs.YteeojceloljcbaaDoor.H
open Go.RowKit Go.Proofs.YteeojceloljcbaaDoorW.PrintWords Go.Proofs.YteeojceloljcbaaDoorW.PrintLast Go.Proofs.YteeojceloljcbaaDoor.P

theorem refBrackets_c (x y : Int) (w : World) : Calls Tryd.prog 32 #[.int .i64 x, .int .i64 y] w fun e w' => e = .returned (.bool (brackB x y)) ∧ ∃ n, w' = w.drewN n :=
  (berthref13_brackets.calls 2 x y _ w (ref_brackets_eq x y)).mono fun _ _ h => ⟨h.1, h.2.out⟩
/-- Texts of some places, as memory holds them. -/
def TextsAt (w : World) (g n : Nat) (f : Int → Bs) (ks : List Int) : Prop := g < w.heap.size ∧ n ≤ 1000 ∧ ∀ k ∈ ks, 0 ≤ k ∧ k < (n : Int) ∧ w.cell? ⟨g, k.toNat, none⟩ = some (.string ⟨(f k).toArray⟩)
theorem TextsAt.below {w w' : World} {g n : Nat} {f : Int → Bs} {ks : List Int} (h : TextsAt w g n f ks) (hb : Below w.heap.size w w') : TextsAt w' g n f ks :=
  ⟨Nat.lt_of_lt_of_le h.1 hb.size, h.2.1, fun k hk => ⟨(h.2.2 k hk).1, (h.2.2 k hk).2.1, (hb.cell (p := ⟨g, k.toNat, none⟩) h.1).trans (h.2.2 k hk).2.2⟩⟩
theorem ba_append (a b : ByteArray) : (a ++ b).data.toList = a.data.toList ++ b.data.toList := by rw [ByteArray.data_append]; simp
theorem ba_of {a : ByteArray} {l : Bs} (h : a.data.toList = l) : a = ⟨l.toArray⟩ := by subst h; rfl

set_option maxHeartbeats 4000000 in
set_option maxRecDepth 100000 in
theorem joined_any (A : Option Addr) (c : Nat) (l0 : List Pt) (f : Int → Bs) (p : Pt) (sep : ByteArray) (A3 : Option Addr) (c3 g n : Nat) (w : World)
    (hr : Kd.F k45 w (fun _ => True) A l0.length l0) (h3 : Kd.F (Kd.int .i64) w (fun _ => True) A3 p.f3.length p.f3) (hk : ∀ k ∈ p.f3, 0 ≤ k ∧ k < (l0.length : Int)) (hn0 : l0.length ≤ 1000)
    (ht : TextsAt w g n f p.f3) (hn : p.f3.length ≤ 1000) (hlen : (joinT l0 p sep.data.toList f p.f3).length ≤ 2000000) :
    Calls Tryd.prog 43 #[.agg #[.slice A l0.length c], pval p A3 c3, .slice (some ⟨g, 0, none⟩) n n, .string sep] w fun e w' => e = .returned (.string ⟨(joinT l0 p sep.data.toList f p.f3).toArray⟩) ∧ Below w.heap.size w w' := by
  have HR := Lib.hid hr
  have H3 := Lib.hid h3
  have HK := Lib.hid hk
  have HT := Lib.hid ht
  have HL := Lib.hid hlen
  have hnI : (p.f3.length : Int) ≤ 1000 := by omega
  have hW0 : Below w.heap.size w ((w.alloc (.cells #[.slice A l0.length c] 24)).alloc (.cells #[.int .i64 p.f0, .string p.f1, .int .i64 p.f2, .slice A3 p.f3.length c3] 45)) := ((Below.refl _ _).alloc (Nat.le_refl _) _).alloc (by simp) _
  have HW0 := Lib.hid hW0
  clear hr h3 hk ht hlen hn hW0
  go_enter Tryd.func43, Tryd.ntmps43
  go_wp2
  go_loopw [9, 10] (fun s i wr => ∃ (k : Nat) (b : ByteArray), k ≤ p.f3.length ∧ i = .int .i64 k ∧ s = .string b ∧ Hid (b.data.toList = joinT l0 p sep.data.toList f (p.f3.take k)) ∧ Hid (Below (w.heap.size + 1 + 1) ((w.alloc (.cells #[.slice A l0.length c] 24)).alloc (.cells #[.int .i64 p.f0, .string p.f1, .int .i64 p.f2, .slice A3 p.f3.length c3] 45)) wr)) (fun _ i _ => p.f3.length - (intOf i).toNat)
  case atStart => exact ⟨0, ⟨#[]⟩, Nat.zero_le _, rfl, rfl, Lib.hid rfl, Lib.hid (Below.refl _ _)⟩
  case round =>
    obtain ⟨k, b, hkn, rfl, rfl, HB, HW⟩ := hrel
    have hBW : Below w.heap.size w wr := HW0.out.trans (HW.out.mono (by omega))
    have HBW := Lib.hid hBW
    have d0 : wr.cell? ⟨w.heap.size, 0, none⟩ = some (.slice A l0.length c) := (HW.out.cell (p := ⟨w.heap.size, 0, none⟩) (by simp; omega)).trans (by simp)
    have e0 : wr.cell? ⟨w.heap.size + 1, 0, none⟩ = some (.int .i64 p.f0) := (HW.out.cell (p := ⟨w.heap.size + 1, 0, none⟩) (by simp)).trans (by simp)
    have e3 : wr.cell? ⟨w.heap.size + 1, 3, none⟩ = some (.slice A3 p.f3.length c3) := (HW.out.cell (p := ⟨w.heap.size + 1, 3, none⟩) (by simp)).trans (by simp)
    clear hBW
    by_cases hlt : k < p.f3.length
    · have hB : decide (k < p.f3.length) = true := by simp; omega
      obtain ⟨ad3, x, rfl, hx, hcx⟩ := C_int_at (Kd.F_now (Kd.F_step H3.out (fun j hj hl => HBW.out.block j hl))) k hlt
      have hxe : p.f3[k] = x := by rw [← hx]; simp [List.getD_eq_getElem?_getD, List.getElem?_eq_getElem hlt]
      have hmem : x ∈ p.f3 := by rw [← hxe]; exact List.getElem_mem hlt
      obtain ⟨hx0, hx1⟩ := HK.out x hmem
      obtain ⟨-, hn1, hT⟩ := HT.out.below HBW.out
      obtain ⟨-, hxn, hcT⟩ := hT x hmem
      have HJ := Lib.hid (joinT_succ l0 p sep.data.toList f p.f3 k hlt)
      have HX := Lib.hid hxe
      have hle := joinT_take_le l0 p sep.data.toList f p.f3 (k + 1)
      have HLE := Lib.hid hle
      clear hx hxe hmem hle hT
      obtain ⟨adq, _, _, hA, eq0, -⟩ := at_T45 (Kd.F_now (Kd.F_step HR.out (fun j hj hl => HBW.out.block j hl))) x hx0 hx1
      subst hA
      generalize hq : (rd_T45 l0 x).f0 = q at *
      have HQ := Lib.hid hq
      clear hq
      have hbl : b.size = (joinT l0 p sep.data.toList f (p.f3.take k)).length := by rw [← HB.out]; simp
      have hj := congrArg List.length HJ.out
      rw [HX.out, List.length_append, List.length_append] at hj
      have hll := HL.out
      have hle := HLE.out
      by_cases hk0 : k = 0
      · subst hk0
        have hcx0 : wr.cell? ad3 = some (.int .i64 x) := by rw [addr_zero] at hcx; exact hcx
        cases hbr : brackB p.f0 q with
        | false =>
          have BC := Lib.hid (fun W => refBrackets_c p.f0 q W)
          rw [hbr] at BC
          have HO : Hid (oneT l0 p f x = f x) := Lib.hid (by simp [oneT, HQ.out, hbr])
          rw [HO.out] at hj
          rw [if_pos rfl] at hj
          try simp only [List.length_nil, List.length_cons, List.length_append] at hj
          have hs1 : b.size + (f x).length + 2 ≤ 5000000 := by omega
          clear hbl hj hll hle hbr
          go_wp2_with fail
          go_quiet ((go_at_call 32; exact Calls.quiet_of (BC.out _)))
          go_wp2_with fail
          go_roundw
          case rel => exact ⟨0 + 1, b ++ ⟨(f x).toArray⟩, by omega, by go_num, rfl, Lib.hid (by rw [HJ.out, HX.out, HO.out]; simp [ba_append, HB.out]), Lib.hid (pw_below_drewN HW.out _)⟩
          case measure => simp [intOf]; omega
        | true =>
          have BC := Lib.hid (fun W => refBrackets_c p.f0 q W)
          rw [hbr] at BC
          have HO : Hid (oneT l0 p f x = 40 :: (f x ++ [41])) := Lib.hid (by simp [oneT, HQ.out, hbr])
          rw [HO.out] at hj
          rw [if_pos rfl] at hj
          try simp only [List.length_nil, List.length_cons, List.length_append] at hj
          have hs1 : b.size + (f x).length + 2 ≤ 5000000 := by omega
          clear hbl hj hll hle hbr
          go_wp2_with fail
          go_quiet ((go_at_call 32; exact Calls.quiet_of (BC.out _)))
          go_wp2_with fail
          go_roundw
          case rel => exact ⟨0 + 1, b ++ ⟨#[40]⟩ ++ ⟨(f x).toArray⟩ ++ ⟨#[41]⟩, by omega, by go_num, rfl, Lib.hid (by rw [HJ.out, HX.out, HO.out]; simp [ba_append, HB.out]), Lib.hid (pw_below_drewN HW.out _)⟩
          case measure => simp [intOf]; omega
      · have hsl : sep.data.toList.length = sep.size := by simp
        have hkB : decide (0 < k) = true := by simp; omega
        have HK0 := Lib.hid hk0
        cases hbr : brackB p.f0 q with
        | false =>
          have BC := Lib.hid (fun W => refBrackets_c p.f0 q W)
          rw [hbr] at BC
          have HO : Hid (oneT l0 p f x = f x) := Lib.hid (by simp [oneT, HQ.out, hbr])
          rw [HO.out] at hj
          rw [if_neg hk0] at hj
          try simp only [List.length_nil, List.length_cons, List.length_append] at hj
          have hs1 : b.size + sep.size + (f x).length + 2 ≤ 5000000 := by omega
          clear hbl hj hll hle hbr hk0
          go_wp2_with fail
          go_quiet ((go_at_call 32; exact Calls.quiet_of (BC.out _)))
          go_wp2_with fail
          go_roundw
          case rel => exact ⟨k + 1, b ++ sep ++ ⟨(f x).toArray⟩, by omega, by go_num, rfl, Lib.hid (by rw [HJ.out, HX.out, HO.out]; simp [ba_append, HB.out, HK0.out]), Lib.hid (pw_below_drewN HW.out _)⟩
          case measure => simp [intOf]; omega
        | true =>
          have BC := Lib.hid (fun W => refBrackets_c p.f0 q W)
          rw [hbr] at BC
          have HO : Hid (oneT l0 p f x = 40 :: (f x ++ [41])) := Lib.hid (by simp [oneT, HQ.out, hbr])
          rw [HO.out] at hj
          rw [if_neg hk0] at hj
          try simp only [List.length_nil, List.length_cons, List.length_append] at hj
          have hs1 : b.size + sep.size + (f x).length + 2 ≤ 5000000 := by omega
          clear hbl hj hll hle hbr hk0
          go_wp2_with fail
          go_quiet ((go_at_call 32; exact Calls.quiet_of (BC.out _)))
          go_wp2_with fail
          go_roundw
          case rel => exact ⟨k + 1, b ++ sep ++ ⟨#[40]⟩ ++ ⟨(f x).toArray⟩ ++ ⟨#[41]⟩, by omega, by go_num, rfl, Lib.hid (by rw [HJ.out, HX.out, HO.out]; simp [ba_append, HB.out, HK0.out]), Lib.hid (pw_below_drewN HW.out _)⟩
          case measure => simp [intOf]; omega
    · have hB : decide (k < p.f3.length) = false := by simp; omega
      obtain rfl : k = p.f3.length := by omega
      go_wp2
      go_ret
      have := HB.out
      rw [List.take_length] at this
      exact ⟨by rw [ba_of this]; rfl, HBW.out⟩

theorem refDigits_c (n : Int) (h0 : -9223372036854775807 ≤ n) (h1 : n ≤ 9223372036854775807) (w : World) : Calls Tryd.prog 57 #[.int .i64 n] w fun e w' => e = .returned (.string ⟨(Lib.itoa n).toArray⟩) ∧ Below w.heap.size w w' := by
  obtain ⟨k, hk⟩ := (digits_ev n h0 h1).rounds
  exact berthref13_digits.calls k n _ w hk
theorem refWho_c (n : Int) (w : World) : Calls Tryd.prog 58 #[.int .i64 n] w fun e w' => e = .returned (.string ⟨(sideT n).toArray⟩) ∧ ∃ n, w' = w.drewN n :=
  (berthref13_who.calls n _ w (by unfold berthref13_who.f sideT; repeat' split
                                  all_goals rfl)).mono fun _ _ h => ⟨h.1, h.2.out⟩
theorem refSign_c (n : Int) (w : World) : Calls Tryd.prog 44 #[.int .i64 n] w fun e w' => e = .returned (.string ⟨(cmpT n).toArray⟩) ∧ ∃ n, w' = w.drewN n :=
  (berthref13_sign.calls n _ w (by unfold berthref13_sign.f cmpT; repeat' split
                                   all_goals rfl)).mono fun _ _ h => ⟨h.1, h.2.out⟩
theorem quoteT_len (s : ByteArray) : (quoteT s).length ≤ 4 * s.size + 2 := by
  have := qpre_len s s.size
  have e : quoteT s = qpre s s.size ++ [34] := by unfold qpre quoteT; rw [List.take_of_length_le (by simp)]; rfl
  rw [e, List.length_append, List.length_singleton]; omega
theorem sideT_len (n : Int) : (sideT n).length ≤ 4 := by unfold sideT; repeat' split
                                                         all_goals simp
theorem str_val {a : ByteArray} {l : Bs} (h : a.data.toList = l) : Ending.returned (.string a) = .returned (.string ⟨l.toArray⟩) := by rw [ba_of h]
def leafK (k : Int) : Prop := k = 1 ∨ k = 2 ∨ k = 10 ∨ k = 11 ∨ k = 12 ∨ k = 14 ∨ k = 15 ∨ k = 16 ∨ k = 17 ∨ k = 18

set_option maxHeartbeats 4000000 in
set_option maxRecDepth 100000 in
theorem leaf_any (l0 : List Pt) (f : Int → Bs) (p : Pt) (A3 : Option Addr) (c3 : Nat) (w : World) (hs : p.f1.size ≤ 200000) (h0 : -9223372036854775807 ≤ p.f2) (h1 : p.f2 ≤ 9223372036854775807) (hk : leafK p.f0) :
    Calls Tryd.prog 45 #[pval p A3 c3] w fun e w' => e = .returned (.string ⟨(partT l0 p f).toArray⟩) ∧ Below w.heap.size w w' := by
  obtain ⟨k, s, n, ks⟩ := p
  have hq := quoteT_len s
  have hsd := sideT_len n
  simp only at hs h0 h1
  have QC := Lib.hid (refQuote_any s)
  have DC := Lib.hid (refDigits_c n h0 h1)
  have WC := Lib.hid (refWho_c n)
  have hq1 : (quoteT s).length ≤ 800002 := by omega
  have HW0 := Lib.hid ((Below.refl w.heap.size w).alloc (Nat.le_refl _) (.cells #[.int .i64 k, .string s, .int .i64 n, .slice A3 ks.length c3] 45))
  have HS := Lib.hid (show s.size ≤ 2000000 by omega)
  clear hq h0 h1 hs
  unfold leafK at hk
  simp only at hk
  rcases hk with rfl | rfl | rfl | rfl | rfl | rfl | rfl | rfl | rfl | rfl
  all_goals
    go_enter Tryd.func45, Tryd.ntmps45
    go_wp2_with fail
    refine (QC.out _ HS.out).mono ?_
    rintro e w2 ⟨rfl, hB⟩
    have HW2 := Lib.hid (HW0.out.trans (hB.mono (by simp)))
    have d0 := (hB.cell (p := ⟨w.heap.size, 0, none⟩) (by simp))
    have d2 := (hB.cell (p := ⟨w.heap.size, 2, none⟩) (by simp))
    simp at d0 d2
    have hz := hB.size
    clear hB
    go_wp2_with (first | (go_at_call 57; refine (DC.out _).mono ?_; rintro e w3 ⟨rfl, hB3⟩) | (go_at_call 58; refine (WC.out _).mono ?_; rintro e w3 ⟨rfl, nd, rfl⟩))
    go_ret
    refine ⟨str_val (by simp [partT, termT, ba_append]), ?_⟩
    first | exact HW2.out | exact pw_below_drewN HW2.out _ | exact HW2.out.trans (hB3.mono HW2.out.size)
end Go.Proofs.YteeojceloljcbaaDoor.H
