/-
  The walk of LexCovers.
-/
import Derived.Test.YthcdmnndhjbbfaaDoorLawFirst
import Derived.Test.YthcdmnndhjbbfaaDoorGapO
set_option linter.unusedVariables false
set_option linter.unusedSimpArgs false
namespace Go.Proofs.YthcdmnndhjbbfaaDoor.X
open Go.RowKit

theorem chain_ne {l : Bs} {i : Nat} {ts : List Tk} (h : Chain l i ts) : ts ≠ [] := by cases h <;> simp
/-- The next token of a source, and what is said of it. -/
theorem chain_at {l : Bs} {i : Nat} {ts : List Tk} {k : Nat} (hk : k < ts.length) (h : Chain l i (ts.drop k)) (hl : l.length ≤ 4096) :
    (k + 1 = ts.length ∧ ts[k] = ⟨0, [], 0, l.length, l.length⟩ ∧ i ≤ l.length ∧ skipN l i = l.length) ∨
    (k + 1 < ts.length ∧ i ≤ ts[k].at_ ∧ ts[k].at_ < ts[k].end_ ∧ ts[k].end_ ≤ l.length ∧ ts[k].at_ = skipN l i ∧ ts[k].kind ≠ 0 ∧ TokSays (ownOf l ts[k]) ts[k] ∧ Chain l ts[k].end_ (ts.drop (k + 1))) := by
  rw [List.drop_eq_getElem_cons hk] at h
  generalize ht : ts[k] = t at h ⊢
  generalize hd : ts.drop (k + 1) = rest at h ⊢
  have hdl : rest.length = ts.length - (k + 1) := by rw [← hd, List.length_drop]
  cases h with
  | fin _ h1 h2 => exact .inl ⟨by simp at hdl; omega, rfl, h1, h2⟩
  | cons _ _ _ h1 h2 h3 h4 h5 h6 h7 =>
    have hne := chain_ne h7
    have hpos : 0 < rest.length := List.length_pos_iff.2 hne
    have hsg := skipN_ge l i
    obtain ⟨k1, k2, k3, k4⟩ := own_tok (l := l) (t := t) (by omega) (by rw [h4]; exact h2) h3
    have hs := tok_says k1 h3 rfl (by omega)
    exact .inr ⟨by omega, by omega, h5, h6, h4, h3, hs, h7⟩

set_option maxHeartbeats 16000000 in
set_option maxRecDepth 100000 in
theorem lexCovers_any (s : ByteArray) (w : World) (hs : s.size ≤ 140737488355328) (hL : LW w) :
    Calls Tryd.prog 10 #[.string s] w fun e w' => e = .returned (.bool true) ∧ Below w.heap.size w w' := by
  have HL := Lib.hid hL
  have S1 := Lib.hid (fun W h => scan_any s W (by omega) h)
  have hta := assert_fault
  clear hL
  rcases scan_cases s.data.toList with ⟨ts, hq, hlen⟩ | ⟨c, at_, hq, hc0⟩
  · rw [hq] at S1
    obtain ⟨hl, hC⟩ := prefix_chain hq
    have hl2 : s.size ≤ 4096 := by rwa [size_len] at hl
    have HC := Lib.hid hC
    have HLL := Lib.hid hl
    have hne := List.length_pos_iff.2 (chain_ne hC)
    have hI1 : ¬ ((4096 : Int) < (s.size : Int)) := by omega
    have hI0 : ((ts.length : Int) == 0) = false := by rw [beq_eq_false_iff_ne]; omega
    clear hq hl hC
    go_enter Tryd.func10, Tryd.ntmps10
    go_upto_region 4 with (first
      | (go_at_call 17; refine (fixed_any _ HL.out).mono ?_; rintro e w5 ⟨rfl, hF⟩; have HF := Lib.hid hF; clear hF)
      | (go_at_call 11; refine (fixedQuote_any _).mono ?_; rintro e w6 ⟨rfl, hF6⟩; have HF6 := Lib.hid (HF.out.trans (hF6.mono HF.out.size)); clear hF6)
      | (go_at_call 18; refine (S1.out _ (HL.out.below HF6.out)).mono ?_; rintro e w1 ⟨hB1, v1, hO1, rfl⟩; have HB1 := Lib.hid (HF6.out.trans (hB1.mono HF6.out.size)); have HO1 := Lib.hid hO1; clear hB1 hO1))
    rcases tokAt_of_own HO1.out with ⟨_, he⟩ | ⟨g, cap, rfl, hg, hcell⟩
    · rw [he] at hne; simp at hne
    have HCE := Lib.hid hcell
    clear hcell
    go_wp2_with fail
    go_loopw [7, 93] (fun va vi wr => ∃ (i k : Nat), k ≤ ts.length ∧ i ≤ s.size ∧ va = .int .i64 i ∧ vi = .int .i64 k ∧ Hid (k = ts.length ∨ Chain s.data.toList i (ts.drop k)) ∧ Hid (Below w1.heap.size w1 wr)) (fun _ vi _ => ts.length - (intOf vi).toNat)
    case atStart => exact ⟨0, 0, Nat.zero_le _, Nat.zero_le _, rfl, rfl, Lib.hid (.inr HC.out), Lib.hid (Below.refl _ _)⟩
    case round =>
      obtain ⟨i, k, hk, hi, rfl, rfl, HK, HW⟩ := hrel
      by_cases hlt : k < ts.length
      · have hI : (k : Int) < (ts.length : Int) := by omega
        have G1 : ∀ (a : Nat) (last : Bool), a = skipN s.data.toList i → (skipN s.data.toList i < s.size ∨ last = true) → ∀ W, Calls Tryd.prog 24 #[.string (s.extract i a), .bool last] W fun e w' => e = .returned (.bool true) ∧ W = w' := by
          intro a last ha hh W
          have h := gapOnly_any (s.extract i a) last W (Nat.le_trans (extract_le s i a) (Nat.le_trans hl2 (by decide)))
          have e : gapV last (gapS false (s.extract i a).data.toList) = true := by rw [extract_list, ha]; exact gap_between s.data.toList i (by rw [size_len]; exact hi) last (by rw [size_len]; exact hh)
          rw [e] at h
          exact h
        have hcases := chain_at hlt (by rcases HK.out with h | h; omega; exact h) HLL.out
        rw [size_len] at hcases
        have ca : ∀ j u, (tokCells ts[k]).toList[j]? = some u → wr.cell? ⟨g, k * 5 + j, none⟩ = some u := fun j u hu => (World.cell?_of_block (a := ⟨g, k * 5 + j, none⟩) (HW.out.block g hg)).trans (HCE.out k hlt j u hu)
        have hzw := HW.out.size
        generalize ts[k] = t at hcases ca
        obtain ⟨tk, tx, tn, ta, te⟩ := t
        dsimp only at hcases ca
        have a0 : wr.cell? ⟨g, k * 5, none⟩ = some (.int .i64 tk) := ca 0 _ rfl
        have a1 : wr.cell? ⟨g, k * 5 + 1, none⟩ = some (.string ⟨tx.toArray⟩) := ca 1 _ rfl
        have a2 : wr.cell? ⟨g, k * 5 + 2, none⟩ = some (.int .i64 tn) := ca 2 _ rfl
        have a3 : wr.cell? ⟨g, k * 5 + 3, none⟩ = some (.int .i64 ta) := ca 3 _ rfl
        have a4 : wr.cell? ⟨g, k * 5 + 4, none⟩ = some (.int .i64 te) := ca 4 _ rfl
        clear ca
        rcases hcases with ⟨h1, h2, h3, h4⟩ | ⟨h1, h2, h3, h4, h5, h6, h7, h8⟩
        · injection h2 with h20 h21 h22 h23 h24
          subst h20 h21 h22 h23 h24
          have hkl : ((k : Int) == (ts.length : Int) - 1) = true := by rw [beq_iff_eq]; omega
          have hi1 : ¬ ((s.size : Int) < (i : Int)) := by omega
          have hi2 : (i : Int) ≤ (s.size : Int) := by omega
          have GC := Lib.hid (G1 s.size true h4.symm (.inr rfl))
          clear G1 h1 h3 h4
          go_wp2_with (go_at_call 24; refine (GC.out _).mono ?_; rintro e w3 ⟨rfl, rfl⟩)
          go_roundw
          case rel => exact ⟨s.size, k + 1, hlt, Nat.le_refl _, rfl, by go_num, Lib.hid (.inl (by simp only [beq_iff_eq] at hkl; omega)), Lib.hid (HW.out.alloc hzw _)⟩
          case measure => simp [intOf]; omega
        · have hkl : ((k : Int) == (ts.length : Int) - 1) = false := by rw [beq_eq_false_iff_ne]; omega
          have hi1 : ¬ ((ta : Int) < (i : Int)) := by omega
          have hi2 : (i : Int) ≤ (ta : Int) := by omega
          have hi3 : ¬ ((s.size : Int) < (te : Int)) := by omega
          have hi4 : (te : Int) ≤ (s.size : Int) := by omega
          have hi5 : ¬ ((te : Int) < (ta : Int)) := by omega
          have hi6 : (ta : Int) ≤ (te : Int) := by omega
          have hi7 : ((te : Int) == (ta : Int)) = false := by rw [beq_eq_false_iff_ne]; omega
          have hi8 : (ta : Int) ≤ (s.size : Int) := by omega
          have GC := Lib.hid (G1 ta false h5 (.inl (by omega)))
          have H8 := Lib.hid h8
          have hte : te ≤ s.size := h4
          have hos := extract_le s ta te
          have hown : ownOf s.data.toList ⟨tk, tx, tn, ta, te⟩ = (s.extract ta te).data.toList := (extract_list s ta te).symm
          rw [hown] at h7
          obtain ⟨o, ho⟩ : ∃ o, o = s.extract ta te := ⟨_, rfl⟩
          have HOO := Lib.hid ho
          clear G1 h1 h2 h3 h4 h5 h8 hown
          rcases h7 with ⟨q1, q2, q3⟩ | ⟨q1, q2, q3, q4, q5⟩ | ⟨q1, q2, q3⟩
          · dsimp only at q1 q2 q3
            subst q1 q3
            have U1 := unquote_any (s.extract ta te)
            rw [q2] at U1
            have UC := Lib.hid (fun W => U1 W (by omega))
            clear U1 q2 h6 ho
            go_wp2_with (first | (go_at_call 24; refine (GC.out _).mono ?_; rintro e w3 ⟨rfl, rfl⟩) | (go_at_call 14; refine (UC.out _).mono ?_; rintro e w7 ⟨rfl, hB7⟩; have HB7 := Lib.hid hB7; have tz := (hB7.block wr.heap.size (by simp)).trans (Go.heap_alloc_new wr _); have y1 : w7.cell? ⟨wr.heap.size, 1, none⟩ = some (.string ⟨tx.toArray⟩) := (Lib.cell_of_heap tz _).trans rfl; have y2 : w7.cell? ⟨wr.heap.size, 2, none⟩ = some (.int .i64 0) := (Lib.cell_of_heap tz _).trans rfl; have y4 : w7.cell? ⟨wr.heap.size, 4, none⟩ = some (.int .i64 te) := (Lib.cell_of_heap tz _).trans rfl; clear hB7 tz))
            go_roundw
            case rel => exact ⟨te, k + 1, hlt, hte, rfl, by go_num, Lib.hid (.inr H8.out), Lib.hid (HW.out.trans ((((Below.refl _ _).alloc (Nat.le_refl _) _).trans (HB7.out.mono (by simp))).mono hzw))⟩
            case measure => simp [intOf]; omega
          · dsimp only at q1 q2 q3 q4 q5
            subst q1 q3
            have hE : (s.extract ta te).toList = Lib.itoa tn := by rw [ByteArray.toList_eq, q2]
            have IC := Lib.hid (fun W h => itoa_c tn q4 q5 W h)
            have HLr := Lib.hid ((HL.out.below (HB1.out.trans (HW.out.mono HB1.out.size))).alloc (.cells (tokCells ⟨2, [], tn, ta, te⟩) 44))
            clear q2 h6 ho
            go_wp2_with (first | (go_at_call 24; refine (GC.out _).mono ?_; rintro e w3 ⟨rfl, rfl⟩) | (go_at_call 25; refine (IC.out _ HLr.out).mono ?_; rintro e w7 ⟨rfl, hB7⟩; have HB7 := Lib.hid hB7; have tz := (hB7.block wr.heap.size (by simp)).trans (Go.heap_alloc_new wr _); have y1 : w7.cell? ⟨wr.heap.size, 1, none⟩ = some (.string ⟨#[]⟩) := (Lib.cell_of_heap tz _).trans rfl; have y4 : w7.cell? ⟨wr.heap.size, 4, none⟩ = some (.int .i64 te) := (Lib.cell_of_heap tz _).trans rfl; clear hB7 tz))
            go_roundw
            case rel => exact ⟨te, k + 1, hlt, hte, rfl, by go_num, Lib.hid (.inr H8.out), Lib.hid (HW.out.trans ((((Below.refl _ _).alloc (Nat.le_refl _) _).trans (HB7.out.mono (by simp))).mono hzw))⟩
            case measure => simp [intOf]; omega
          · dsimp only at q1 q2 q3
            have hE : (s.extract ta te).toList = tx := by rw [ByteArray.toList_eq, q2]
            subst q3
            clear q2 h6 ho
            rcases q1 with rfl | rfl
            · go_wp2_with (go_at_call 24; refine (GC.out _).mono ?_; rintro e w3 ⟨rfl, rfl⟩)
              go_roundw
              case rel => exact ⟨te, k + 1, hlt, hte, rfl, by go_num, Lib.hid (.inr H8.out), Lib.hid (HW.out.alloc hzw _)⟩
              case measure => simp [intOf]; omega
            · go_wp2_with (go_at_call 24; refine (GC.out _).mono ?_; rintro e w3 ⟨rfl, rfl⟩)
              go_roundw
              case rel => exact ⟨te, k + 1, hlt, hte, rfl, by go_num, Lib.hid (.inr H8.out), Lib.hid (HW.out.alloc hzw _)⟩
              case measure => simp [intOf]; omega
      · have hI : ¬ ((k : Int) < (ts.length : Int)) := by omega
        go_wp2_with fail
        go_ret
        exact ⟨rfl, HB1.out.trans (HW.out.mono HB1.out.size)⟩
  · rw [hq] at S1
    obtain ⟨f1, f2, f3, f4⟩ := scan_fault hq
    rw [size_len] at f1 f4
    clear hq
    go_enter Tryd.func10, Tryd.ntmps10
    go_upto_region 5 with (first
      | (go_at_call 17; refine (fixed_any _ HL.out).mono ?_; rintro e w5 ⟨rfl, hF⟩; have HF := Lib.hid hF; clear hF)
      | (go_at_call 11; refine (fixedQuote_any _).mono ?_; rintro e w6 ⟨rfl, hF6⟩; have HF6 := Lib.hid (HF.out.trans (hF6.mono HF.out.size)); clear hF6)
      | (go_at_call 18; refine (S1.out _ (HL.out.below HF6.out)).mono ?_; rintro e w1 ⟨hB1, b, rfl, hb1, hb2⟩; have HB1 := Lib.hid (HF6.out.trans (hB1.mono HF6.out.size)); have HF1 := Lib.hid hb2; clear hB1 hb2))
    have z0 : w1.cell? ⟨b, 0, none⟩ = some (.int .i64 c) := (Lib.cell_of_heap HF1.out _).trans rfl
    have z1 : w1.cell? ⟨b, 1, none⟩ = some (.int .i64 (at_ : Nat)) := (Lib.cell_of_heap HF1.out _).trans rfl
    have g1 : (at_ : Int) ≤ (s.size : Int) := by omega
    by_cases h4 : 4096 < s.size
    · obtain rfl := f4.1 h4
      have g2 : (4096 : Int) < (s.size : Int) := by omega
      clear f4 h4
      go_wp2_with fail
      go_ret
      exact ⟨rfl, HB1.out⟩
    · have g2 : ¬ ((4096 : Int) < (s.size : Int)) := by omega
      have g3 : (c == 110) = false := by rw [beq_eq_false_iff_ne]; exact fun e => h4 (f4.2 e)
      clear f4 h4
      go_wp2_with fail
      go_ret
      exact ⟨rfl, HB1.out⟩
end Go.Proofs.YthcdmnndhjbbfaaDoor.X
