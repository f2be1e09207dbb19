/-
  The walks of marks and next.
-/
import Derived.Test.YthcdmnndhjbbfaaDoorLexN
import Derived.Deep.Cut
import Derived.Deep.CutBlock
import Derived.Deep.CutRange
set_option linter.unusedVariables false
set_option linter.unusedSimpArgs false
namespace Go.Proofs.YthcdmnndhjbbfaaDoor.X
open Go.RowKit
theorem set5_other (W : World) (g b : Nat) (h : b ≠ g) (b0 b1 b2 b3 b4 : Value) : (set5 W g b0 b1 b2 b3 b4).heap[b]? = W.heap[b]? := by
  rw [heap_setCell_other _ _ _ _ h, heap_setCell_other _ _ _ _ h, heap_setCell_other _ _ _ _ h, heap_setCell_other _ _ _ _ h, heap_setCell_other _ _ _ _ h]

theorem ans_ok {w w2 : World} {o : Obj} {t : Tk} {e : Ending} (h : LexAns (w.alloc o) (.ok t) e w2) :
    e = .returned (.tuple #[.agg #[.int .i64 t.kind, .string ⟨t.text.toArray⟩, .int .i64 t.num, .int .i64 t.at_, .int .i64 t.end_], .pointer none]) ∧ Below (w.heap.size + 1) (w.alloc o) w2 :=
  ⟨h.1, by have := h.2; simpa using this⟩
theorem ans_err {w w2 : World} {o : Obj} {c : Int} {a : Nat} {e : Ending} (h : LexAns (w.alloc o) (.error (c, a)) e w2) :
    ∃ b, e = .returned (.tuple #[.agg #[.int .i64 0, .string ⟨#[]⟩, .int .i64 0, .int .i64 0, .int .i64 0], .pointer (some ⟨b, 0, none⟩)]) ∧ w.heap.size + 1 ≤ b ∧ w2.heap[b]? = some (faultObj c a) ∧ Below (w.heap.size + 1) (w.alloc o) w2 := by
  obtain ⟨b, h1, h2, h3, h4⟩ := h
  exact ⟨b, h1, by simpa using h2, h3, by simpa using h4⟩
/-- The cells of the marks. -/
def markCells : Array Value := (marksL.map fun m => Value.string ⟨m.toArray⟩).toArray
theorem marks_any (w : World) : Calls Tryd.prog 45 #[] w fun e w' => e = .returned (.slice (some ⟨w.heap.size, 0, none⟩) 17 17) ∧ w.alloc (.cells markCells 9) = w' := by
  go_enter Tryd.func45, Tryd.ntmps45
  go_wp2
  go_ret
  exact ⟨rfl, rfl⟩

/-- The end. -/
theorem next_end (s : ByteArray) (w : World) (hs : s.size ≤ 1000000000000) :
    Calls Tryd.prog 33 #[.string s, .int .i64 s.size] w (LexAns w (.ok ⟨0, [], 0, s.size, s.size⟩)) := by
  go_enter Tryd.func33, Tryd.ntmps33
  go_wp2
  refine bodyPost_ret (results_ct rfl _ _ w.heap.size 44 #[.int .i64 0, .string ⟨#[]⟩, .int .i64 0, .int .i64 s.size, .int .i64 s.size] (0, 0) _ (.pointer none) rfl rfl (Go.heap_alloc_new w _) Tryd.underlying44 rfl (by rw [tokSize]; rfl)) rfl ⟨rfl, ?_⟩
  exact (Below.refl _ _).alloc (Nat.le_refl _) _

set_option maxHeartbeats 4000000 in
set_option maxRecDepth 100000 in
/-- A text. -/
theorem next_text (s : ByteArray) (i : Nat) (w : World) (hs : s.size ≤ 1000000000000) (hi : i < s.size) (c34 : s[i] = 34) :
    Calls Tryd.prog 33 #[.string s, .int .i64 i] w (LexAns w (textAt s.data.toList i)) := by
  have TC := Lib.hid (fun W => text_any s i W hs hi)
  have e34 : ((s[i].toNat : Int) == 34) = true := byte_eq s[i] 34 c34
  have TZ := Lib.hid (Go.heap_alloc_new w (.cells zeroCells 44))
  have hI : ¬ ((s.size : Int) ≤ (i : Int)) := by omega
  clear c34
  generalize textAt s.data.toList i = r at TC ⊢
  go_enter Tryd.func33, Tryd.ntmps33
  cases hr : r with
  | ok t =>
    rw [hr] at TC
    clear hr
    go_wp2_with (first | (go_at_call 27; refine (TC.out _).mono ?_; rintro e w2 hL2; obtain ⟨rfl, hB2⟩ := ans_ok hL2; clear hL2; have tz2 := (hB2.block w.heap.size (by simp)).trans TZ.out; have y0 : w2.cell? ⟨w.heap.size, 0, none⟩ = some (.int .i64 0) := (Lib.cell_of_heap tz2 _).trans rfl; have y1 : w2.cell? ⟨w.heap.size, 1, none⟩ = some (.string ⟨#[]⟩) := (Lib.cell_of_heap tz2 _).trans rfl; have y2 : w2.cell? ⟨w.heap.size, 2, none⟩ = some (.int .i64 0) := (Lib.cell_of_heap tz2 _).trans rfl; have y3 : w2.cell? ⟨w.heap.size, 3, none⟩ = some (.int .i64 0) := (Lib.cell_of_heap tz2 _).trans rfl; have y4 : w2.cell? ⟨w.heap.size, 4, none⟩ = some (.int .i64 0) := (Lib.cell_of_heap tz2 _).trans rfl; have yf : ∀ j, w2.frozen? ⟨w.heap.size, j, none⟩ = false := (fun j => by simp [World.frozen?, tz2]); have hzl2 : w.heap.size < w2.heap.size := (by have := hB2.size; simp at this; omega); have HZ2 := Lib.hid tz2; have HB2 := Lib.hid hB2; clear hB2 tz2))
    try rw [Exit.noGoto_ret]
    refine bodyPost_ret (results_ct rfl _ _ w.heap.size 44 #[.int .i64 t.kind, .string ⟨t.text.toArray⟩, .int .i64 t.num, .int .i64 t.at_, .int .i64 t.end_] (0, 0) _ (.pointer none) rfl rfl (set5_same _ _ _ _ _ _ _ _ _ _ _ _ _ HZ2.out) Tryd.underlying44 rfl (by rw [tokSize]; rfl)) rfl ⟨rfl, ?_⟩
    exact set5_below (((Below.refl _ _).alloc (Nat.le_refl _) _).trans (HB2.out.mono (by omega))) w.heap.size (Nat.le_refl _) _ _ _ _ _
  | error f =>
    obtain ⟨c0, a0⟩ := f
    rw [hr] at TC
    clear hr
    go_wp2_with (first | (go_at_call 27; refine (TC.out _).mono ?_; rintro e w2 hL2; obtain ⟨b, rfl, hb1, hb2, hB2⟩ := ans_err hL2; clear hL2; have tz2 := (hB2.block w.heap.size (by simp)).trans TZ.out; have y0 : w2.cell? ⟨w.heap.size, 0, none⟩ = some (.int .i64 0) := (Lib.cell_of_heap tz2 _).trans rfl; have y1 : w2.cell? ⟨w.heap.size, 1, none⟩ = some (.string ⟨#[]⟩) := (Lib.cell_of_heap tz2 _).trans rfl; have y2 : w2.cell? ⟨w.heap.size, 2, none⟩ = some (.int .i64 0) := (Lib.cell_of_heap tz2 _).trans rfl; have y3 : w2.cell? ⟨w.heap.size, 3, none⟩ = some (.int .i64 0) := (Lib.cell_of_heap tz2 _).trans rfl; have y4 : w2.cell? ⟨w.heap.size, 4, none⟩ = some (.int .i64 0) := (Lib.cell_of_heap tz2 _).trans rfl; have yf : ∀ j, w2.frozen? ⟨w.heap.size, j, none⟩ = false := (fun j => by simp [World.frozen?, tz2]); have hzl2 : w.heap.size < w2.heap.size := (by have := hB2.size; simp at this; omega); have HZ2 := Lib.hid tz2; have HB2 := Lib.hid hB2; clear hB2 tz2; have HF := Lib.hid hb2; clear hb2))
    try rw [Exit.noGoto_ret]
    refine bodyPost_ret (results_ct rfl _ _ w.heap.size 44 zeroCells (0, 0) _ (.pointer (some ⟨b, 0, none⟩)) rfl rfl (set5_same _ _ _ _ _ _ _ _ _ _ _ _ _ HZ2.out) Tryd.underlying44 rfl (by rw [tokSize]; rfl)) rfl ⟨b, rfl, by omega, ?_, ?_⟩
    · rw [set5_other _ _ _ (by omega)]; exact HF.out
    · exact set5_below (((Below.refl _ _).alloc (Nat.le_refl _) _).trans (HB2.out.mono (by omega))) w.heap.size (Nat.le_refl _) _ _ _ _ _

set_option maxHeartbeats 4000000 in
set_option maxRecDepth 100000 in
/-- A number. -/
theorem next_dig (s : ByteArray) (i : Nat) (w : World) (hs : s.size ≤ 1000000000000) (hi : i < s.size) (hL : LW w) (hd : digB s[i] = true) :
    Calls Tryd.prog 33 #[.string s, .int .i64 i] w (LexAns w (numRes (runL (s.data.toList.drop i)) i)) := by
  have NC := Lib.hid (fun W h => number_any s i W hs hi h)
  have HL : Hid (LW (w.alloc (.cells zeroCells 44))) := Lib.hid (hL.below ((Below.refl _ _).alloc (Nat.le_refl _) _))
  have TZ := Lib.hid (Go.heap_alloc_new w (.cells zeroCells 44))
  have hI : ¬ ((s.size : Int) ≤ (i : Int)) := by omega
  have D1 := Lib.hid (fun W => digit_any s[i] W)
  have n34 : ((s[i].toNat : Int) == 34) = false := byte_ne s[i] 34 (by decide) (by intro e; rw [e] at hd; exact absurd hd (by decide))
  rw [hd] at D1
  clear hd
  generalize numRes (runL (s.data.toList.drop i)) i = r at NC ⊢
  clear hL
  go_enter Tryd.func33, Tryd.ntmps33
  cases hr : r with
  | ok t =>
    rw [hr] at NC
    clear hr
    go_wp2_with (first | (go_at_call 42; (with_reducible refine (D1.out _).mono ?_); rintro e w5 ⟨rfl, rfl⟩) | (go_at_call 43; refine (NC.out _ HL.out).mono ?_; rintro e w2 hL2; obtain ⟨rfl, hB2⟩ := ans_ok hL2; clear hL2; have tz2 := (hB2.block w.heap.size (by simp)).trans TZ.out; have y0 : w2.cell? ⟨w.heap.size, 0, none⟩ = some (.int .i64 0) := (Lib.cell_of_heap tz2 _).trans rfl; have y1 : w2.cell? ⟨w.heap.size, 1, none⟩ = some (.string ⟨#[]⟩) := (Lib.cell_of_heap tz2 _).trans rfl; have y2 : w2.cell? ⟨w.heap.size, 2, none⟩ = some (.int .i64 0) := (Lib.cell_of_heap tz2 _).trans rfl; have y3 : w2.cell? ⟨w.heap.size, 3, none⟩ = some (.int .i64 0) := (Lib.cell_of_heap tz2 _).trans rfl; have y4 : w2.cell? ⟨w.heap.size, 4, none⟩ = some (.int .i64 0) := (Lib.cell_of_heap tz2 _).trans rfl; have yf : ∀ j, w2.frozen? ⟨w.heap.size, j, none⟩ = false := (fun j => by simp [World.frozen?, tz2]); have hzl2 : w.heap.size < w2.heap.size := (by have := hB2.size; simp at this; omega); have HZ2 := Lib.hid tz2; have HB2 := Lib.hid hB2; clear hB2 tz2))
    try rw [Exit.noGoto_ret]
    refine bodyPost_ret (results_ct rfl _ _ w.heap.size 44 #[.int .i64 t.kind, .string ⟨t.text.toArray⟩, .int .i64 t.num, .int .i64 t.at_, .int .i64 t.end_] (0, 0) _ (.pointer none) rfl rfl (set5_same _ _ _ _ _ _ _ _ _ _ _ _ _ HZ2.out) Tryd.underlying44 rfl (by rw [tokSize]; rfl)) rfl ⟨rfl, ?_⟩
    exact set5_below (((Below.refl _ _).alloc (Nat.le_refl _) _).trans (HB2.out.mono (by omega))) w.heap.size (Nat.le_refl _) _ _ _ _ _
  | error f =>
    obtain ⟨c0, a0⟩ := f
    rw [hr] at NC
    clear hr
    go_wp2_with (first | (go_at_call 42; (with_reducible refine (D1.out _).mono ?_); rintro e w5 ⟨rfl, rfl⟩) | (go_at_call 43; refine (NC.out _ HL.out).mono ?_; rintro e w2 hL2; obtain ⟨b, rfl, hb1, hb2, hB2⟩ := ans_err hL2; clear hL2; have tz2 := (hB2.block w.heap.size (by simp)).trans TZ.out; have y0 : w2.cell? ⟨w.heap.size, 0, none⟩ = some (.int .i64 0) := (Lib.cell_of_heap tz2 _).trans rfl; have y1 : w2.cell? ⟨w.heap.size, 1, none⟩ = some (.string ⟨#[]⟩) := (Lib.cell_of_heap tz2 _).trans rfl; have y2 : w2.cell? ⟨w.heap.size, 2, none⟩ = some (.int .i64 0) := (Lib.cell_of_heap tz2 _).trans rfl; have y3 : w2.cell? ⟨w.heap.size, 3, none⟩ = some (.int .i64 0) := (Lib.cell_of_heap tz2 _).trans rfl; have y4 : w2.cell? ⟨w.heap.size, 4, none⟩ = some (.int .i64 0) := (Lib.cell_of_heap tz2 _).trans rfl; have yf : ∀ j, w2.frozen? ⟨w.heap.size, j, none⟩ = false := (fun j => by simp [World.frozen?, tz2]); have hzl2 : w.heap.size < w2.heap.size := (by have := hB2.size; simp at this; omega); have HZ2 := Lib.hid tz2; have HB2 := Lib.hid hB2; clear hB2 tz2; have HF := Lib.hid hb2; clear hb2))
    try rw [Exit.noGoto_ret]
    refine bodyPost_ret (results_ct rfl _ _ w.heap.size 44 zeroCells (0, 0) _ (.pointer (some ⟨b, 0, none⟩)) rfl rfl (set5_same _ _ _ _ _ _ _ _ _ _ _ _ _ HZ2.out) Tryd.underlying44 rfl (by rw [tokSize]; rfl)) rfl ⟨b, rfl, by omega, ?_, ?_⟩
    · rw [set5_other _ _ _ (by omega)]; exact HF.out
    · exact set5_below (((Below.refl _ _).alloc (Nat.le_refl _) _).trans (HB2.out.mono (by omega))) w.heap.size (Nat.le_refl _) _ _ _ _ _

set_option maxHeartbeats 4000000 in
set_option maxRecDepth 100000 in
/-- A number. -/
theorem next_minus (s : ByteArray) (i : Nat) (w : World) (hs : s.size ≤ 1000000000000) (hi : i < s.size) (hL : LW w) (c45 : s[i] = 45) (h1 : i + 1 < s.size) (hd : digB s[i + 1] = true) :
    Calls Tryd.prog 33 #[.string s, .int .i64 i] w (LexAns w (numRes (runL (s.data.toList.drop i)) i)) := by
  have NC := Lib.hid (fun W h => number_any s i W hs hi h)
  have HL : Hid (LW (w.alloc (.cells zeroCells 44))) := Lib.hid (hL.below ((Below.refl _ _).alloc (Nat.le_refl _) _))
  have TZ := Lib.hid (Go.heap_alloc_new w (.cells zeroCells 44))
  have hI : ¬ ((s.size : Int) ≤ (i : Int)) := by omega
  have D1 := Lib.hid (fun W => digit_any s[i] W)
  have D2 := Lib.hid (fun W => digit_any s[i + 1] W)
  have n34 : ((s[i].toNat : Int) == 34) = false := byte_ne s[i] 34 (by decide) (by intro e; rw [e] at c45; exact absurd c45 (by decide))
  have e45 : ((s[i].toNat : Int) == 45) = true := byte_eq s[i] 45 c45
  have hI1 : (i : Int) + 1 < (s.size : Int) := by omega
  have hd1 : digB s[i] = false := by rw [c45]; decide
  rw [hd1] at D1
  rw [hd] at D2
  clear hd hd1 c45
  generalize numRes (runL (s.data.toList.drop i)) i = r at NC ⊢
  clear hL
  go_enter Tryd.func33, Tryd.ntmps33
  cases hr : r with
  | ok t =>
    rw [hr] at NC
    clear hr
    go_wp2_with (first | (go_at_call 42; (with_reducible refine (D1.out _).mono ?_); rintro e w5 ⟨rfl, rfl⟩) | (go_at_call 42; (with_reducible refine (D2.out _).mono ?_); rintro e w5 ⟨rfl, rfl⟩) | (go_at_call 43; refine (NC.out _ HL.out).mono ?_; rintro e w2 hL2; obtain ⟨rfl, hB2⟩ := ans_ok hL2; clear hL2; have tz2 := (hB2.block w.heap.size (by simp)).trans TZ.out; have y0 : w2.cell? ⟨w.heap.size, 0, none⟩ = some (.int .i64 0) := (Lib.cell_of_heap tz2 _).trans rfl; have y1 : w2.cell? ⟨w.heap.size, 1, none⟩ = some (.string ⟨#[]⟩) := (Lib.cell_of_heap tz2 _).trans rfl; have y2 : w2.cell? ⟨w.heap.size, 2, none⟩ = some (.int .i64 0) := (Lib.cell_of_heap tz2 _).trans rfl; have y3 : w2.cell? ⟨w.heap.size, 3, none⟩ = some (.int .i64 0) := (Lib.cell_of_heap tz2 _).trans rfl; have y4 : w2.cell? ⟨w.heap.size, 4, none⟩ = some (.int .i64 0) := (Lib.cell_of_heap tz2 _).trans rfl; have yf : ∀ j, w2.frozen? ⟨w.heap.size, j, none⟩ = false := (fun j => by simp [World.frozen?, tz2]); have hzl2 : w.heap.size < w2.heap.size := (by have := hB2.size; simp at this; omega); have HZ2 := Lib.hid tz2; have HB2 := Lib.hid hB2; clear hB2 tz2))
    try rw [Exit.noGoto_ret]
    refine bodyPost_ret (results_ct rfl _ _ w.heap.size 44 #[.int .i64 t.kind, .string ⟨t.text.toArray⟩, .int .i64 t.num, .int .i64 t.at_, .int .i64 t.end_] (0, 0) _ (.pointer none) rfl rfl (set5_same _ _ _ _ _ _ _ _ _ _ _ _ _ HZ2.out) Tryd.underlying44 rfl (by rw [tokSize]; rfl)) rfl ⟨rfl, ?_⟩
    exact set5_below (((Below.refl _ _).alloc (Nat.le_refl _) _).trans (HB2.out.mono (by omega))) w.heap.size (Nat.le_refl _) _ _ _ _ _
  | error f =>
    obtain ⟨c0, a0⟩ := f
    rw [hr] at NC
    clear hr
    go_wp2_with (first | (go_at_call 42; (with_reducible refine (D1.out _).mono ?_); rintro e w5 ⟨rfl, rfl⟩) | (go_at_call 42; (with_reducible refine (D2.out _).mono ?_); rintro e w5 ⟨rfl, rfl⟩) | (go_at_call 43; refine (NC.out _ HL.out).mono ?_; rintro e w2 hL2; obtain ⟨b, rfl, hb1, hb2, hB2⟩ := ans_err hL2; clear hL2; have tz2 := (hB2.block w.heap.size (by simp)).trans TZ.out; have y0 : w2.cell? ⟨w.heap.size, 0, none⟩ = some (.int .i64 0) := (Lib.cell_of_heap tz2 _).trans rfl; have y1 : w2.cell? ⟨w.heap.size, 1, none⟩ = some (.string ⟨#[]⟩) := (Lib.cell_of_heap tz2 _).trans rfl; have y2 : w2.cell? ⟨w.heap.size, 2, none⟩ = some (.int .i64 0) := (Lib.cell_of_heap tz2 _).trans rfl; have y3 : w2.cell? ⟨w.heap.size, 3, none⟩ = some (.int .i64 0) := (Lib.cell_of_heap tz2 _).trans rfl; have y4 : w2.cell? ⟨w.heap.size, 4, none⟩ = some (.int .i64 0) := (Lib.cell_of_heap tz2 _).trans rfl; have yf : ∀ j, w2.frozen? ⟨w.heap.size, j, none⟩ = false := (fun j => by simp [World.frozen?, tz2]); have hzl2 : w.heap.size < w2.heap.size := (by have := hB2.size; simp at this; omega); have HZ2 := Lib.hid tz2; have HB2 := Lib.hid hB2; clear hB2 tz2; have HF := Lib.hid hb2; clear hb2))
    try rw [Exit.noGoto_ret]
    refine bodyPost_ret (results_ct rfl _ _ w.heap.size 44 zeroCells (0, 0) _ (.pointer (some ⟨b, 0, none⟩)) rfl rfl (set5_same _ _ _ _ _ _ _ _ _ _ _ _ _ HZ2.out) Tryd.underlying44 rfl (by rw [tokSize]; rfl)) rfl ⟨b, rfl, by omega, ?_, ?_⟩
    · rw [set5_other _ _ _ (by omega)]; exact HF.out
    · exact set5_below (((Below.refl _ _).alloc (Nat.le_refl _) _).trans (HB2.out.mono (by omega))) w.heap.size (Nat.le_refl _) _ _ _ _ _

theorem run_word (s : ByteArray) (i : Nat) (h : i < s.size) (hw : wordB s[i] = true) : (⟨(runL (s.data.toList.drop i)).toArray⟩ : ByteArray) = s.extract i (i + twN s i) := by
  have h1 := run_bytes s i h
  rw [show i + 1 + twN s (i + 1) = i + twN s i by rw [twN_yes h hw]; omega] at h1
  rw [← h1]
theorem run_word_len (s : ByteArray) (i : Nat) (h : i < s.size) (hw : wordB s[i] = true) : (runL (s.data.toList.drop i)).length = twN s i := by
  rw [run_len s i h, twN_yes h hw]; omega
set_option maxHeartbeats 4000000 in
set_option maxRecDepth 100000 in
/-- A word. -/
theorem next_word (s : ByteArray) (i : Nat) (w : World) (hs : s.size ≤ 1000000000000) (hi : i < s.size) (hw : wordB s[i] = true) (hd : digB s[i] = false) :
    Calls Tryd.prog 33 #[.string s, .int .i64 i] w (LexAns w (.ok ⟨3, runL (s.data.toList.drop i), 0, i, i + (runL (s.data.toList.drop i)).length⟩)) := by
  have TZ := Lib.hid (Go.heap_alloc_new w (.cells zeroCells 44))
  have hI : ¬ ((s.size : Int) ≤ (i : Int)) := by omega
  have D1 := Lib.hid (fun W => digit_any s[i] W)
  have W1 := Lib.hid (fun W => wordly_any s[i] W)
  have n34 : ((s[i].toNat : Int) == 34) = false := byte_ne s[i] 34 (by decide) (by intro e; rw [e] at hw; exact absurd hw (by decide))
  have n45 : ((s[i].toNat : Int) == 45) = false := byte_ne s[i] 45 (by decide) (by intro e; rw [e] at hw; exact absurd hw (by decide))
  have HX := Lib.hid (run_word s i hi hw)
  have HLn := Lib.hid (run_word_len s i hi hw)
  have hE2 := twN_le s i (by omega)
  rw [hd] at D1
  rw [hw] at W1
  clear hd hw
  obtain ⟨E, hE⟩ : ∃ E, E = i + twN s i := ⟨_, rfl⟩
  have HE := Lib.hid hE
  rw [← hE] at HX hE2
  have hiE : i ≤ E := by omega
  clear hE
  go_enter Tryd.func33, Tryd.ntmps33
  go_upto_block 1 with (first | (go_at_call 42; (with_reducible refine (D1.out _).mono ?_); rintro e w5 ⟨rfl, rfl⟩) | (go_at_call 44; (with_reducible refine (W1.out _).mono ?_); rintro e w5 ⟨rfl, rfl⟩))
  go_cut [7] from 58 to 69 (fun v wx => v = .int .i64 E ∧ wx = w.alloc (.cells zeroCells 44))
  case first =>
    go_wp2_with fail
    go_loopw [7] (fun v wr => ∃ k : Nat, i ≤ k ∧ k ≤ s.size ∧ v = .int .i64 k ∧ Hid (E = k + twN s k) ∧ w.alloc (.cells zeroCells 44) = wr) (fun v _ => s.size - (intOf v).toNat)
    case atStart => exact ⟨i, Nat.le_refl _, by omega, rfl, HE, rfl⟩
    case round =>
      obtain ⟨k, hik, hk, rfl, HK, rfl⟩ := hrel
      by_cases hlt : k < s.size
      · have WC := Lib.hid (fun W => wordly_any s[k] W)
        have hI0 : (k : Int) < (s.size : Int) := by omega
        cases hw : wordB s[k] with
        | true =>
          have HK2 : Hid (E = (k + 1) + twN s (k + 1)) := Lib.hid (by rw [HK.out, twN_yes hlt hw]; omega)
          rw [hw] at WC
          clear hw
          go_wp2_with (go_at_call 44; refine (WC.out _).mono ?_; rintro e w3 ⟨rfl, rfl⟩)
          go_roundw
          case rel => exact ⟨k + 1, by omega, by omega, by go_num, HK2, trivial⟩
          case measure => simp [intOf]; omega
        | false =>
          have hEk : E = k := by rw [HK.out, twN_no hlt hw]; omega
          have HEK : Hid (k = E) := Lib.hid hEk.symm
          rw [hw] at WC
          clear hw hEk
          go_wp2_with (go_at_call 44; refine (WC.out _).mono ?_; rintro e w3 ⟨rfl, rfl⟩)
          go_meet
          case rel => exact ⟨by rw [HEK.out], rfl⟩
      · have hEk : E = k := by rw [HK.out, twN_end (by omega)]; omega
        have HEK : Hid (k = E) := Lib.hid hEk.symm
        have hI0 : ¬ ((k : Int) < (s.size : Int)) := by omega
        clear hEk
        go_wp2
        go_meet
        case rel => exact ⟨by rw [HEK.out], rfl⟩
  case rest =>
    obtain ⟨rfl, rfl⟩ := hcut
    go_wp2
    try rw [Exit.noGoto_ret]
    have hl2 : i + (runL (s.data.toList.drop i)).length = E := by rw [HLn.out, HE.out]
    rw [hl2]
    refine bodyPost_ret (results_ct rfl _ _ w.heap.size 44 #[.int .i64 3, .string (s.extract i E), .int .i64 0, .int .i64 i, .int .i64 E] (0, 0) _ (.pointer none) rfl rfl (Go.heap_alloc_new w _) Tryd.underlying44 rfl (by rw [tokSize]; rfl)) rfl ⟨?_, (Below.refl _ _).alloc (Nat.le_refl _) _⟩
    simp only [tokV, tokCells, HX.out]

theorem find_step (l : Bs) (k : Nat) (h : k < marksL.length) : findMark l (marksL.drop k) = if marksL[k].isPrefixOf l then some marksL[k] else findMark l (marksL.drop (k + 1)) := by
  rw [List.drop_eq_getElem_cons h]; rfl
theorem markCells_at (k : Nat) (h : k < marksL.length) : markCells[k]? = some (.string ⟨marksL[k].toArray⟩) := by
  simp [markCells, List.getElem?_eq_getElem h]
theorem marks_two : ∀ m ∈ marksL, m.length ≤ 2 := by decide
theorem rest_bytes (s : ByteArray) (i : Nat) (h : i ≤ s.size) : (s.extract i s.size).data.toList = s.data.toList.drop i := by
  simp only [ByteArray.data_extract, Array.toList_extract, List.extract_eq_take_drop]
  rw [List.take_of_length_le (by simp)]
/-- What a mark comes to. -/
def markRes (i : Nat) : Option Bs → Res
  | some m => .ok ⟨4, m, 0, i, i + m.length⟩
  | none => .error (111, i)

set_option maxHeartbeats 8000000 in
set_option maxRecDepth 100000 in
/-- A mark, or none. -/
theorem next_mark (s : ByteArray) (i : Nat) (w : World) (hs : s.size ≤ 1000000000000) (hi : i < s.size) (h34 : ¬ s[i] = 34) (hd : digB s[i] = false) (hw : wordB s[i] = false) (n45b : ¬ s[i] = 45) :
    Calls Tryd.prog 33 #[.string s, .int .i64 i] w (LexAns w (markRes i (findMark (s.data.toList.drop i) marksL))) := by
  have hI : ¬ ((s.size : Int) ≤ (i : Int)) := by omega
  have D1 := Lib.hid (fun W => digit_any s[i] W)
  have W1 := Lib.hid (fun W => wordly_any s[i] W)
  have n34 : ((s[i].toNat : Int) == 34) = false := byte_ne s[i] 34 (by decide) h34
  have n45 : ((s[i].toNat : Int) == 45) = false := byte_ne s[i] 45 (by decide) n45b
  clear n45b
  have HR := Lib.hid (rest_bytes s i (by omega))
  rw [hd] at D1
  rw [hw] at W1
  clear h34 hd hw
  obtain ⟨R, hR⟩ : ∃ R, R = findMark (s.data.toList.drop i) (marksL.drop 0) := ⟨_, rfl⟩
  have hR0 : findMark (s.data.toList.drop i) marksL = R := hR.symm
  rw [hR0]
  have HF := Lib.hid hR
  clear hR hR0
  go_enter Tryd.func33, Tryd.ntmps33
  go_wp2_with (first | (go_at_call 42; (with_reducible refine (D1.out _).mono ?_); rintro e w5 ⟨rfl, rfl⟩) | (go_at_call 44; (with_reducible refine (W1.out _).mono ?_); rintro e w5 ⟨rfl, rfl⟩) | (go_at_call 45; refine (marks_any _).mono ?_; rintro e w6 ⟨rfl, rfl⟩))
  go_loopw [79] (fun v wr => ∃ k : Nat, k ≤ 17 ∧ v = .int .i64 k ∧ Hid (R = findMark (s.data.toList.drop i) (marksL.drop k)) ∧ (w.alloc (.cells zeroCells 44)).alloc (.cells markCells 9) = wr) (fun v _ => 17 - (intOf v).toNat)
  case atStart => exact ⟨0, by omega, rfl, HF, rfl⟩
  case round =>
    obtain ⟨k, hk, rfl, HK, rfl⟩ := hrel
    by_cases hlt : k < 17
    · have hI0 : (k : Int) < 17 := by omega
      have hc : ((w.alloc (.cells zeroCells 44)).alloc (.cells markCells 9)).cell? ⟨w.heap.size + 1, k, none⟩ = some (.string ⟨marksL[k].toArray⟩) := by
        have h := Go.heap_alloc_new (w.alloc (.cells zeroCells 44)) (.cells markCells 9)
        rw [World.size_alloc] at h
        exact (Lib.cell_of_heap h _).trans (markCells_at k hlt)
      have PC := Lib.hid (fun W => Tryd.strings_HasPrefix (s.extract i s.size) ⟨marksL[k].toArray⟩ W)
      have HK2 := Lib.hid (HK.out.trans (find_step (s.data.toList.drop i) k hlt))
      rw [HR.out] at PC
      simp only [Lib.hasPrefix] at PC
      have hml : marksL[k].length ≤ 2 := marks_two _ (List.getElem_mem hlt)
      generalize marksL[k] = m at hc PC HK2 hml
      cases hp : m.isPrefixOf (s.data.toList.drop i) with
      | true =>
        rw [hp] at PC HK2
        have HE : Hid (R = some m) := Lib.hid HK2.out
        clear hp
        go_wp2_with (go_at_call 46; refine (PC.out _).mono ?_; rintro e w7 ⟨rfl, rfl⟩)
        try rw [Exit.noGoto_ret]
        rw [HE.out]
        refine bodyPost_ret (results_ct rfl _ _ w.heap.size 44 #[.int .i64 4, .string ⟨m.toArray⟩, .int .i64 0, .int .i64 i, .int .i64 ((i : Int) + (m.length : Int))] (0, 0) _ (.pointer none) rfl rfl ((Below.heap_alloc _ _ _ (by simp)).trans (Go.heap_alloc_new w _)) Tryd.underlying44 rfl (by rw [tokSize]; rfl)) rfl ⟨rfl, ?_⟩
        exact ((Below.refl _ _).alloc (Nat.le_refl _) _).alloc (by simp) _
      | false =>
        rw [hp] at PC HK2
        have HE : Hid (R = findMark (s.data.toList.drop i) (marksL.drop (k + 1))) := Lib.hid HK2.out
        clear hp
        go_wp2_with (go_at_call 46; refine (PC.out _).mono ?_; rintro e w7 ⟨rfl, rfl⟩)
        go_roundw
        case rel => exact ⟨k + 1, by omega, by go_num, HE, trivial⟩
        case measure => simp [intOf]; omega
    · have hI0 : ¬ ((k : Int) < 17) := by omega
      obtain rfl : k = 17 := by omega
      have HE : Hid (R = none) := Lib.hid HK.out
      go_wp2_with (go_at_call 26; refine (fault_any _ _ _).mono ?_; rintro e w5 ⟨rfl, rfl⟩)
      try rw [Exit.noGoto_ret]
      rw [HE.out]
      refine bodyPost_ret (results_ct rfl _ _ w.heap.size 44 zeroCells (0, 0) _ (.pointer (some ⟨w.heap.size + 1 + 1, 0, none⟩)) rfl rfl ((Below.heap_alloc _ _ _ (by simp; omega)).trans ((Below.heap_alloc _ _ _ (by simp)).trans (Go.heap_alloc_new w _))) Tryd.underlying44 rfl (by rw [tokSize]; rfl)) rfl ⟨w.heap.size + 1 + 1, rfl, by omega, ?_, ?_⟩
      · have := Go.heap_alloc_new ((w.alloc (.cells zeroCells 44)).alloc (.cells markCells 9)) (faultObj 111 i)
        simpa using this
      · exact (((Below.refl _ _).alloc (Nat.le_refl _) _).alloc (by simp) _).alloc (by simp; omega) _

set_option maxHeartbeats 8000000 in
set_option maxRecDepth 100000 in
/-- A mark, or none. -/
theorem next_mark_end (s : ByteArray) (i : Nat) (w : World) (hs : s.size ≤ 1000000000000) (hi : i < s.size) (h34 : ¬ s[i] = 34) (hd : digB s[i] = false) (hw : wordB s[i] = false) (c45 : s[i] = 45) (h1 : ¬ i + 1 < s.size) :
    Calls Tryd.prog 33 #[.string s, .int .i64 i] w (LexAns w (markRes i (findMark (s.data.toList.drop i) marksL))) := by
  have hI : ¬ ((s.size : Int) ≤ (i : Int)) := by omega
  have D1 := Lib.hid (fun W => digit_any s[i] W)
  have W1 := Lib.hid (fun W => wordly_any s[i] W)
  have n34 : ((s[i].toNat : Int) == 34) = false := byte_ne s[i] 34 (by decide) h34
  have e45 : ((s[i].toNat : Int) == 45) = true := byte_eq s[i] 45 c45
  have hI1 : ¬ ((i : Int) + 1 < (s.size : Int)) := by omega
  clear c45
  have HR := Lib.hid (rest_bytes s i (by omega))
  rw [hd] at D1
  rw [hw] at W1
  clear h34 hd hw
  obtain ⟨R, hR⟩ : ∃ R, R = findMark (s.data.toList.drop i) (marksL.drop 0) := ⟨_, rfl⟩
  have hR0 : findMark (s.data.toList.drop i) marksL = R := hR.symm
  rw [hR0]
  have HF := Lib.hid hR
  clear hR hR0
  go_enter Tryd.func33, Tryd.ntmps33
  go_wp2_with (first | (go_at_call 42; (with_reducible refine (D1.out _).mono ?_); rintro e w5 ⟨rfl, rfl⟩) | (go_at_call 44; (with_reducible refine (W1.out _).mono ?_); rintro e w5 ⟨rfl, rfl⟩) | (go_at_call 45; refine (marks_any _).mono ?_; rintro e w6 ⟨rfl, rfl⟩))
  go_loopw [79] (fun v wr => ∃ k : Nat, k ≤ 17 ∧ v = .int .i64 k ∧ Hid (R = findMark (s.data.toList.drop i) (marksL.drop k)) ∧ (w.alloc (.cells zeroCells 44)).alloc (.cells markCells 9) = wr) (fun v _ => 17 - (intOf v).toNat)
  case atStart => exact ⟨0, by omega, rfl, HF, rfl⟩
  case round =>
    obtain ⟨k, hk, rfl, HK, rfl⟩ := hrel
    by_cases hlt : k < 17
    · have hI0 : (k : Int) < 17 := by omega
      have hc : ((w.alloc (.cells zeroCells 44)).alloc (.cells markCells 9)).cell? ⟨w.heap.size + 1, k, none⟩ = some (.string ⟨marksL[k].toArray⟩) := by
        have h := Go.heap_alloc_new (w.alloc (.cells zeroCells 44)) (.cells markCells 9)
        rw [World.size_alloc] at h
        exact (Lib.cell_of_heap h _).trans (markCells_at k hlt)
      have PC := Lib.hid (fun W => Tryd.strings_HasPrefix (s.extract i s.size) ⟨marksL[k].toArray⟩ W)
      have HK2 := Lib.hid (HK.out.trans (find_step (s.data.toList.drop i) k hlt))
      rw [HR.out] at PC
      simp only [Lib.hasPrefix] at PC
      have hml : marksL[k].length ≤ 2 := marks_two _ (List.getElem_mem hlt)
      generalize marksL[k] = m at hc PC HK2 hml
      cases hp : m.isPrefixOf (s.data.toList.drop i) with
      | true =>
        rw [hp] at PC HK2
        have HE : Hid (R = some m) := Lib.hid HK2.out
        clear hp
        go_wp2_with (go_at_call 46; refine (PC.out _).mono ?_; rintro e w7 ⟨rfl, rfl⟩)
        try rw [Exit.noGoto_ret]
        rw [HE.out]
        refine bodyPost_ret (results_ct rfl _ _ w.heap.size 44 #[.int .i64 4, .string ⟨m.toArray⟩, .int .i64 0, .int .i64 i, .int .i64 ((i : Int) + (m.length : Int))] (0, 0) _ (.pointer none) rfl rfl ((Below.heap_alloc _ _ _ (by simp)).trans (Go.heap_alloc_new w _)) Tryd.underlying44 rfl (by rw [tokSize]; rfl)) rfl ⟨rfl, ?_⟩
        exact ((Below.refl _ _).alloc (Nat.le_refl _) _).alloc (by simp) _
      | false =>
        rw [hp] at PC HK2
        have HE : Hid (R = findMark (s.data.toList.drop i) (marksL.drop (k + 1))) := Lib.hid HK2.out
        clear hp
        go_wp2_with (go_at_call 46; refine (PC.out _).mono ?_; rintro e w7 ⟨rfl, rfl⟩)
        go_roundw
        case rel => exact ⟨k + 1, by omega, by go_num, HE, trivial⟩
        case measure => simp [intOf]; omega
    · have hI0 : ¬ ((k : Int) < 17) := by omega
      obtain rfl : k = 17 := by omega
      have HE : Hid (R = none) := Lib.hid HK.out
      go_wp2_with (go_at_call 26; refine (fault_any _ _ _).mono ?_; rintro e w5 ⟨rfl, rfl⟩)
      try rw [Exit.noGoto_ret]
      rw [HE.out]
      refine bodyPost_ret (results_ct rfl _ _ w.heap.size 44 zeroCells (0, 0) _ (.pointer (some ⟨w.heap.size + 1 + 1, 0, none⟩)) rfl rfl ((Below.heap_alloc _ _ _ (by simp; omega)).trans ((Below.heap_alloc _ _ _ (by simp)).trans (Go.heap_alloc_new w _))) Tryd.underlying44 rfl (by rw [tokSize]; rfl)) rfl ⟨w.heap.size + 1 + 1, rfl, by omega, ?_, ?_⟩
      · have := Go.heap_alloc_new ((w.alloc (.cells zeroCells 44)).alloc (.cells markCells 9)) (faultObj 111 i)
        simpa using this
      · exact (((Below.refl _ _).alloc (Nat.le_refl _) _).alloc (by simp) _).alloc (by simp; omega) _

set_option maxHeartbeats 8000000 in
set_option maxRecDepth 100000 in
/-- A mark, or none. -/
theorem next_mark_minus (s : ByteArray) (i : Nat) (w : World) (hs : s.size ≤ 1000000000000) (hi : i < s.size) (h34 : ¬ s[i] = 34) (hd : digB s[i] = false) (hw : wordB s[i] = false) (c45 : s[i] = 45) (h1 : i + 1 < s.size) (hd2 : digB s[i + 1] = false) :
    Calls Tryd.prog 33 #[.string s, .int .i64 i] w (LexAns w (markRes i (findMark (s.data.toList.drop i) marksL))) := by
  have hI : ¬ ((s.size : Int) ≤ (i : Int)) := by omega
  have D1 := Lib.hid (fun W => digit_any s[i] W)
  have W1 := Lib.hid (fun W => wordly_any s[i] W)
  have n34 : ((s[i].toNat : Int) == 34) = false := byte_ne s[i] 34 (by decide) h34
  have e45 : ((s[i].toNat : Int) == 45) = true := byte_eq s[i] 45 c45
  have hI1 : (i : Int) + 1 < (s.size : Int) := by omega
  have D2 := Lib.hid (fun W => digit_any s[i + 1] W)
  rw [hd2] at D2
  clear c45 hd2
  have HR := Lib.hid (rest_bytes s i (by omega))
  rw [hd] at D1
  rw [hw] at W1
  clear h34 hd hw
  obtain ⟨R, hR⟩ : ∃ R, R = findMark (s.data.toList.drop i) (marksL.drop 0) := ⟨_, rfl⟩
  have hR0 : findMark (s.data.toList.drop i) marksL = R := hR.symm
  rw [hR0]
  have HF := Lib.hid hR
  clear hR hR0
  go_enter Tryd.func33, Tryd.ntmps33
  go_wp2_with (first | (go_at_call 42; (with_reducible refine (D1.out _).mono ?_); rintro e w5 ⟨rfl, rfl⟩) | (go_at_call 42; (with_reducible refine (D2.out _).mono ?_); rintro e w5 ⟨rfl, rfl⟩) | (go_at_call 44; (with_reducible refine (W1.out _).mono ?_); rintro e w5 ⟨rfl, rfl⟩) | (go_at_call 45; refine (marks_any _).mono ?_; rintro e w6 ⟨rfl, rfl⟩))
  go_loopw [79] (fun v wr => ∃ k : Nat, k ≤ 17 ∧ v = .int .i64 k ∧ Hid (R = findMark (s.data.toList.drop i) (marksL.drop k)) ∧ (w.alloc (.cells zeroCells 44)).alloc (.cells markCells 9) = wr) (fun v _ => 17 - (intOf v).toNat)
  case atStart => exact ⟨0, by omega, rfl, HF, rfl⟩
  case round =>
    obtain ⟨k, hk, rfl, HK, rfl⟩ := hrel
    by_cases hlt : k < 17
    · have hI0 : (k : Int) < 17 := by omega
      have hc : ((w.alloc (.cells zeroCells 44)).alloc (.cells markCells 9)).cell? ⟨w.heap.size + 1, k, none⟩ = some (.string ⟨marksL[k].toArray⟩) := by
        have h := Go.heap_alloc_new (w.alloc (.cells zeroCells 44)) (.cells markCells 9)
        rw [World.size_alloc] at h
        exact (Lib.cell_of_heap h _).trans (markCells_at k hlt)
      have PC := Lib.hid (fun W => Tryd.strings_HasPrefix (s.extract i s.size) ⟨marksL[k].toArray⟩ W)
      have HK2 := Lib.hid (HK.out.trans (find_step (s.data.toList.drop i) k hlt))
      rw [HR.out] at PC
      simp only [Lib.hasPrefix] at PC
      have hml : marksL[k].length ≤ 2 := marks_two _ (List.getElem_mem hlt)
      generalize marksL[k] = m at hc PC HK2 hml
      cases hp : m.isPrefixOf (s.data.toList.drop i) with
      | true =>
        rw [hp] at PC HK2
        have HE : Hid (R = some m) := Lib.hid HK2.out
        clear hp
        go_wp2_with (go_at_call 46; refine (PC.out _).mono ?_; rintro e w7 ⟨rfl, rfl⟩)
        try rw [Exit.noGoto_ret]
        rw [HE.out]
        refine bodyPost_ret (results_ct rfl _ _ w.heap.size 44 #[.int .i64 4, .string ⟨m.toArray⟩, .int .i64 0, .int .i64 i, .int .i64 ((i : Int) + (m.length : Int))] (0, 0) _ (.pointer none) rfl rfl ((Below.heap_alloc _ _ _ (by simp)).trans (Go.heap_alloc_new w _)) Tryd.underlying44 rfl (by rw [tokSize]; rfl)) rfl ⟨rfl, ?_⟩
        exact ((Below.refl _ _).alloc (Nat.le_refl _) _).alloc (by simp) _
      | false =>
        rw [hp] at PC HK2
        have HE : Hid (R = findMark (s.data.toList.drop i) (marksL.drop (k + 1))) := Lib.hid HK2.out
        clear hp
        go_wp2_with (go_at_call 46; refine (PC.out _).mono ?_; rintro e w7 ⟨rfl, rfl⟩)
        go_roundw
        case rel => exact ⟨k + 1, by omega, by go_num, HE, trivial⟩
        case measure => simp [intOf]; omega
    · have hI0 : ¬ ((k : Int) < 17) := by omega
      obtain rfl : k = 17 := by omega
      have HE : Hid (R = none) := Lib.hid HK.out
      go_wp2_with (go_at_call 26; refine (fault_any _ _ _).mono ?_; rintro e w5 ⟨rfl, rfl⟩)
      try rw [Exit.noGoto_ret]
      rw [HE.out]
      refine bodyPost_ret (results_ct rfl _ _ w.heap.size 44 zeroCells (0, 0) _ (.pointer (some ⟨w.heap.size + 1 + 1, 0, none⟩)) rfl rfl ((Below.heap_alloc _ _ _ (by simp; omega)).trans ((Below.heap_alloc _ _ _ (by simp)).trans (Go.heap_alloc_new w _))) Tryd.underlying44 rfl (by rw [tokSize]; rfl)) rfl ⟨w.heap.size + 1 + 1, rfl, by omega, ?_, ?_⟩
      · have := Go.heap_alloc_new ((w.alloc (.cells zeroCells 44)).alloc (.cells markCells 9)) (faultObj 111 i)
        simpa using this
      · exact (((Below.refl _ _).alloc (Nat.le_refl _) _).alloc (by simp) _).alloc (by simp; omega) _

theorem size_len (s : ByteArray) : s.data.toList.length = s.size := by rw [Array.length_toList]; rfl
/-- next. -/
theorem next_any (s : ByteArray) (i : Nat) (w : World) (hs : s.size ≤ 1000000000000) (hi : i ≤ s.size) (hL : LW w) :
    Calls Tryd.prog 33 #[.string s, .int .i64 i] w (LexAns w (tokAt s.data.toList i)) := by
  by_cases hlt : i < s.size
  · have hD := drop_at s i hlt
    unfold tokAt
    rw [hD]
    simp only
    rw [← hD]
    by_cases c34 : s[i] = 34
    · rw [if_pos c34]; exact next_text s i w hs hlt c34
    rw [if_neg c34]
    have fin : ∀ (hd : digB s[i] = false) (H : wordB s[i] = false → Calls Tryd.prog 33 #[.string s, .int .i64 i] w (LexAns w (markRes i (findMark (s.data.toList.drop i) marksL)))),
        Calls Tryd.prog 33 #[.string s, .int .i64 i] w (LexAns w (if wordB s[i] = true then .ok ⟨3, runL (s.data.toList.drop i), 0, i, i + (runL (s.data.toList.drop i)).length⟩ else match findMark (s.data.toList.drop i) marksL with
          | some m => .ok ⟨4, m, 0, i, i + m.length⟩
          | none => .error (111, i))) := by
      intro hd H
      cases hw : wordB s[i] with
      | true => simp only [if_true]; exact next_word s i w hs hlt hw hd
      | false =>
        simp only [Bool.false_eq_true, if_false]
        have h := H hw
        cases hm : findMark (s.data.toList.drop i) marksL with
        | some m => rw [hm] at h; exact h
        | none => rw [hm] at h; exact h
    cases hd : digB s[i] with
    | true =>
      simp only [Bool.true_or, if_true]
      exact next_dig s i w hs hlt hL hd
    | false =>
      simp only [Bool.false_or]
      by_cases c45 : s[i] = 45
      · by_cases h1 : i + 1 < s.size
        · have hD1 := drop_at s (i + 1) h1
          rw [hD1]
          cases hd2 : digB s[i + 1] with
          | true =>
            have e : (s[i] == 45 && digB s[i + 1]) = true := by rw [hd2, c45]; rfl
            simp only [e, if_true]
            exact next_minus s i w hs hlt hL c45 h1 hd2
          | false =>
            have e : (s[i] == 45 && digB s[i + 1]) = false := by rw [hd2, Bool.and_false]
            simp only [e, Bool.false_eq_true, if_false]
            exact fin hd (fun hw => next_mark_minus s i w hs hlt c34 hd hw c45 h1 hd2)
        · rw [drop_end s (i + 1) (by omega)]
          simp only [Bool.and_false, Bool.false_eq_true, if_false]
          exact fin hd (fun hw => next_mark_end s i w hs hlt c34 hd hw c45 h1)
      · have e : (s[i] == 45) = false := by simpa using c45
        simp only [e, Bool.false_and, Bool.false_eq_true, if_false]
        exact fin hd (fun hw => next_mark s i w hs hlt c34 hd hw c45)
  · obtain rfl : i = s.size := by omega
    have h : tokAt s.data.toList s.size = .ok ⟨0, [], 0, s.size, s.size⟩ := by
      unfold tokAt; rw [drop_end s s.size (Nat.le_refl _), size_len]
    rw [h]
    exact next_end s w hs

end Go.Proofs.YthcdmnndhjbbfaaDoor.X
