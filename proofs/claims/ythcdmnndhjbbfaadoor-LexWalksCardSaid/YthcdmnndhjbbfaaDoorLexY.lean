/-
  The walks of the reference's Prefix and Scan; a row of tokens that grows.
-/
import Derived.Test.YthcdmnndhjbbfaaDoorLexI
import Derived.Test.YthcdmnndhjbbfaaDoorLexG
import Derived.Test.YthcdmnndhjbbfaaDoorTokRow
set_option linter.unusedVariables false
set_option linter.unusedSimpArgs false
namespace Go.Proofs.YthcdmnndhjbbfaaDoor.X
open Go.RowKit
/-- A fault's code and place; 0 and 0 of none. -/
def codeOf : Option (Int × Nat) → Int
  | none => 0
  | some f => f.1
def placeOf : Option (Int × Nat) → Int
  | none => 0
  | some f => (f.2 : Nat)
/-- What Prefix and Scan of the reference answer. -/
def PreAns (w : World) (r : List Tk × Option (Int × Nat)) (e : Ending) (w' : World) : Prop :=
  ∃ v, TokSl w' w.heap.size v r.1 ∧ Below w.heap.size w w' ∧ e = .returned (.tuple #[v, .int .i64 (codeOf r.2), .int .i64 (placeOf r.2)])
set_option maxHeartbeats 8000000 in
set_option maxRecDepth 100000 in
theorem refPrefix_any (s : ByteArray) (w : World) (hs : s.size ≤ 9223372036854775807) :
    Calls Tryd.prog 21 #[.string s] w (PreAns w (prefixL s.data.toList)) := by
  by_cases hlong : 4096 < s.size
  · have hI : (4096 : Int) < (s.size : Int) := by omega
    have hR : prefixL s.data.toList = ([], some (110, 4096)) := by unfold prefixL; rw [size_len, if_pos hlong]
    rw [hR]
    clear hR hlong
    go_enter Tryd.func21, Tryd.ntmps21
    go_wp2
    go_ret3
    exact ⟨_, World.ownsRow_nil _ _ _ _, Below.refl _ _, rfl⟩
  · have hI : ¬ ((4096 : Int) < (s.size : Int)) := by omega
    obtain ⟨R, hR⟩ : ∃ R, R = scanN s.data.toList (s.data.toList.length + 1) 0 := ⟨_, rfl⟩
    have hR2 : prefixL s.data.toList = R := by unfold prefixL; rw [size_len, if_neg hlong, hR, size_len]
    rw [hR2]
    have HR := Lib.hid hR
    have hs2 : s.size ≤ 4096 := by omega
    clear hR hR2 hlong hs
    go_enter Tryd.func21, Tryd.ntmps21
    go_wp2
    go_loopw [5, 6] (fun v i wr => ∃ (k m : Nat) (acc : List Tk), k ≤ s.size ∧ acc.length ≤ k ∧ i = .int .i64 k ∧ Hid (s.size + 1 ≤ m + k) ∧ Hid (R = (acc ++ (scanN s.data.toList m k).1, (scanN s.data.toList m k).2)) ∧ Hid (TokSl wr w.heap.size v acc) ∧ Hid (Below w.heap.size w wr)) (fun _ i _ => s.size - (intOf i).toNat)
    case atStart => exact ⟨0, s.size + 1, [], by omega, by simp, rfl, Lib.hid (by omega), Lib.hid (by rw [HR.out, size_len]; rfl), Lib.hid (by have := World.ownsRow_made (e := 44) (size := 5) w #[] 0 (Nat.le_refl _) (by simp [maxLen]) rfl; exact this), Lib.hid ((Below.refl _ _).alloc (Nat.le_refl _) _)⟩
    case round =>
      obtain ⟨k, m, acc, hk, ha, rfl, HM, HK, HO, HB⟩ := hrel
      clear HR
      have hbs := HB.out.size
      have hsk : skipN s.data.toList k ≤ s.size := by have := skipN_le (l := s.data.toList) (i := k) (by rw [size_len]; exact hk); rwa [size_len] at this
      have hskg := skipN_ge s.data.toList k
      have GC := Lib.hid (fun W => refGap_any s k W (by omega) hk)
      have TC := Lib.hid (fun W => refTok_any s (skipN s.data.toList k) W (by omega) hsk)
      obtain ⟨m, rfl⟩ : ∃ m', m = m' + 1 := ⟨m - 1, by have := HM.out; omega⟩
      obtain ⟨r, hr⟩ : ∃ r, r = tokAt s.data.toList (skipN s.data.toList k) := ⟨_, rfl⟩
      rw [← hr] at TC
      obtain ⟨i, hi⟩ : ∃ i, i = skipN s.data.toList k := ⟨_, rfl⟩
      have GC2 : Hid (∀ W, Calls Tryd.prog 30 #[.string s, .int .i64 k] W fun e w' => e = .returned (.int .i64 i) ∧ W = w') := Lib.hid (by rw [hi]; exact GC.out)
      rw [← hi] at hsk hskg TC hr
      clear GC
      cases r with
      | error f =>
        obtain ⟨c, a⟩ := f
        have hc : (c != 0) = true := by simpa using tokAt_code hr.symm
        have HE : Hid (R = (acc, some (c, a))) := Lib.hid (by rw [HK.out, scanN_err (f := (c, a)) (by rw [← hi]; exact hr.symm)]; simp)
        clear hi hr
        go_wp2_with (first | (go_at_call 30; refine (GC2.out _).mono ?_; rintro e w3 ⟨rfl, rfl⟩) | (go_at_call 31; refine (TC.out _).mono ?_; rintro e w4 ⟨hB4, rfl⟩; have HB4 := Lib.hid hB4; have hz4 := hB4.size; clear hB4))
        (try simp only [Exit.inBlock, Exit.then]); go_ret3
        rw [HE.out]
        exact ⟨_, ((HO.out.kept (row := none) ⟨HB4.out.os, HB4.out.tape, HB4.out.output, HB4.out.size, fun i hi _ => HB4.out.block i hi⟩ (by cases Value.ownBlock _ <;> simp)).alloc _), (HB.out.trans (HB4.out.mono hbs)).alloc (by omega) _, rfl⟩
      | ok t =>
        have HN : Hid (∀ w4 : World, wr.heap.size ≤ w4.heap.size → some w4.heap.size ≠ Value.ownBlock _) := Lib.hid (fun w4 h4 e => by have := (HO.out.lt _ e.symm).2; omega)
        by_cases hk0 : t.kind = 0
        · have e0 : ((t.kind : Int) == 0) = true := by simpa using hk0
          have HE : Hid (R = (acc ++ [t], none)) := Lib.hid (by rw [HK.out, scanN_end (by rw [← hi]; exact hr.symm) hk0])
          clear hk0 hi hr
          go_wp2_with (first | (go_at_call 30; refine (GC2.out _).mono ?_; rintro e w3 ⟨rfl, rfl⟩) | (go_at_call 31; refine (TC.out _).mono ?_; rintro e w4 ⟨hB4, he⟩; simp only [tokV, tokCells] at he; subst he; have HB4 := Lib.hid hB4; have hz4 := hB4.size; have HO4 := Lib.hid ((HO.out.kept (row := none) ⟨hB4.os, hB4.tape, hB4.output, hB4.size, fun i hi _ => hB4.block i hi⟩ (by cases Value.ownBlock _ <;> simp)).alloc (.cells (tokCells t) 44)); have HBB := Lib.hid ((HB.out.trans (hB4.mono hbs)).alloc (by omega) (.cells (tokCells t) 44)); have hne := HN.out w4 hz4; clear hB4) | (at_builtin; go_loud (refine app_tok w.heap.size rfl (.tmp 29) (.tmp 31) rfl _ acc t _ rfl rfl (by simp [Act.eval]) HO4.out HBB.out (by simp; omega) (by omega) ?_; intro v1 w1 hown hb1 hz1 hk1 _; have tz1 := (hk1 w4.heap.size (by simp) hne).trans (Go.heap_alloc_new w4 _); have y0 : w1.cell? ⟨w4.heap.size, 0, none⟩ = some (.int .i64 t.kind) := (Lib.cell_of_heap tz1 _).trans rfl; have y4 : w1.cell? ⟨w4.heap.size, 4, none⟩ = some (.int .i64 t.end_) := (Lib.cell_of_heap tz1 _).trans rfl; have HO1 := Lib.hid hown; have HB1 := Lib.hid hb1; clear hown hb1 hk1 tz1)))
          (try simp only [Exit.inBlock, Exit.then]); go_ret3
          rw [HE.out]
          exact ⟨_, HO1.out, HB1.out, rfl⟩
        · have e0 : ((t.kind : Int) == 0) = false := by simpa using hk0
          have hb := tok_cases (i := i) (by rw [size_len]; exact hsk) hr.symm hk0
          have HE : Hid (R = (acc ++ [t] ++ (scanN s.data.toList m t.end_).1, (scanN s.data.toList m t.end_).2)) := Lib.hid (by rw [HK.out, scanN_ok (by rw [← hi]; exact hr.symm) hk0]; simp)
          have hb2 := hb.2.1
          have hb3 := hb.2.2
          rw [size_len] at hb3
          clear hk0 hi hr hb
          go_wp2_with (first | (go_at_call 30; refine (GC2.out _).mono ?_; rintro e w3 ⟨rfl, rfl⟩) | (go_at_call 31; refine (TC.out _).mono ?_; rintro e w4 ⟨hB4, he⟩; simp only [tokV, tokCells] at he; subst he; have HB4 := Lib.hid hB4; have hz4 := hB4.size; have HO4 := Lib.hid ((HO.out.kept (row := none) ⟨hB4.os, hB4.tape, hB4.output, hB4.size, fun i hi _ => hB4.block i hi⟩ (by cases Value.ownBlock _ <;> simp)).alloc (.cells (tokCells t) 44)); have HBB := Lib.hid ((HB.out.trans (hB4.mono hbs)).alloc (by omega) (.cells (tokCells t) 44)); have hne := HN.out w4 hz4; clear hB4) | (at_builtin; go_loud (refine app_tok w.heap.size rfl (.tmp 29) (.tmp 31) rfl _ acc t _ rfl rfl (by simp [Act.eval]) HO4.out HBB.out (by simp; omega) (by omega) ?_; intro v1 w1 hown hb1 hz1 hk1 _; have tz1 := (hk1 w4.heap.size (by simp) hne).trans (Go.heap_alloc_new w4 _); have y0 : w1.cell? ⟨w4.heap.size, 0, none⟩ = some (.int .i64 t.kind) := (Lib.cell_of_heap tz1 _).trans rfl; have y4 : w1.cell? ⟨w4.heap.size, 4, none⟩ = some (.int .i64 t.end_) := (Lib.cell_of_heap tz1 _).trans rfl; have HO1 := Lib.hid hown; have HB1 := Lib.hid hb1; clear hown hb1 hk1 tz1)))
          go_roundw
          case rel => exact ⟨t.end_, m, acc ++ [t], hb3, by simp; omega, rfl, Lib.hid (by have := HM.out; omega), HE, HO1, HB1⟩
          case measure => simp [intOf]; omega
theorem refScan_any (s : ByteArray) (w : World) (hs : s.size ≤ 9223372036854775807) :
    Calls Tryd.prog 19 #[.string s] w (PreAns w (scanL s.data.toList)) := by
  have PC := Lib.hid (fun W => refPrefix_any s W hs)
  obtain ⟨R, hR⟩ : ∃ R, R = prefixL s.data.toList := ⟨_, rfl⟩
  unfold scanL
  rw [← hR] at PC ⊢
  obtain ⟨ts, f⟩ := R
  cases f with
  | none =>
    simp only [Option.isSome_none, Bool.false_eq_true, if_false]
    clear hR
    go_enter Tryd.func19, Tryd.ntmps19
    go_wp2_with (go_at_call 21; refine (PC.out _).mono ?_; rintro e w2 ⟨v, hO, hB, rfl⟩; have HO := Lib.hid hO; have HB := Lib.hid hB; clear hO hB; simp only [codeOf, placeOf])
    go_ret3
    exact ⟨_, HO.out, HB.out, rfl⟩
  | some f =>
    obtain ⟨c, a⟩ := f
    simp only [Option.isSome_some, if_true]
    have hc : (c != 0) = true := by simpa using prefix_code hR.symm
    clear hR
    go_enter Tryd.func19, Tryd.ntmps19
    go_wp2_with (go_at_call 21; refine (PC.out _).mono ?_; rintro e w2 ⟨v, hO, hB, rfl⟩; have HO := Lib.hid hO; have HB := Lib.hid hB; clear hO hB; simp only [codeOf, placeOf])
    go_ret3
    exact ⟨_, World.ownsRow_nil _ _ _ _, HB.out, rfl⟩

end Go.Proofs.YthcdmnndhjbbfaaDoor.X
