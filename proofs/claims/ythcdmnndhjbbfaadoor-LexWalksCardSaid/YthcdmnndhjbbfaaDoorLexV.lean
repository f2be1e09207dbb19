/-
  The walks of Unquote and of the reference's Unquote.
-/
import Derived.Test.YthcdmnndhjbbfaaDoorLexU
set_option linter.unusedVariables false
set_option linter.unusedSimpArgs false
namespace Go.Proofs.YthcdmnndhjbbfaaDoor.X
open Go.RowKit
def unqC (n : Nat) : Res → Except (Int × Nat) Bs
  | .error f => .error f
  | .ok t => if t.end_ < n then .error (111, t.end_) else .ok t.text
/-- What Unquote comes to. -/
def unqL (l : Bs) : Except (Int × Nat) Bs :=
  if 4096 < l.length then .error (110, 4096) else if l.head? = some 34 then unqC l.length (textAt l 0) else .error (111, 0)
def UnqAns (w : World) (r : Except (Int × Nat) Bs) (e : Ending) (w' : World) : Prop := match r with
  | .ok b => e = .returned (.tuple #[.string ⟨b.toArray⟩, .nilIface]) ∧ Below w.heap.size w w'
  | .error (c, a) => ∃ b, e = .returned (.tuple #[.string ⟨#[]⟩, .iface 47 (.pointer (some ⟨b, 0, none⟩))]) ∧ w.heap.size ≤ b ∧ w'.heap[b]? = some (faultObj c a) ∧ Below w.heap.size w w'
/-- What the reference's Unquote answers. -/
def unqV : Except (Int × Nat) Bs → Value
  | .ok b => .tuple #[.string ⟨b.toArray⟩, .int .i64 0, .int .i64 0]
  | .error (c, a) => .tuple #[.string ⟨#[]⟩, .int .i64 c, .int .i64 (a : Nat)]
theorem strL_le : ∀ (n : Nat) (l : Bs) (off : Nat) (acc : Bs) (b : Bs) (e : Nat), l.length ≤ n → strL l off acc = .done b e → e ≤ off + l.length := by
  intro n
  induction n with
  | zero =>
    intro l off acc b e hn h
    have : l = [] := List.eq_nil_of_length_eq_zero (by omega)
    subst this
    simp [strL] at h
  | succ n ih =>
    intro l off acc b e hn h
    cases l with
    | nil => simp [strL] at h
    | cons c l =>
      simp only [List.length_cons] at hn ⊢
      by_cases c34 : c = 34
      · subst c34
        rw [strL_end] at h
        cases h; omega
      · by_cases c32 : c < 32
        · rw [strL_low _ _ _ _ c34 c32] at h; cases h
        · by_cases c92 : c = 92
          · subst c92
            rw [strL_esc] at h
            cases hx : escL l with
            | none => rw [hx] at h; cases h
            | some x =>
              obtain ⟨y, k⟩ := x
              rw [hx] at h
              simp only [escK] at h
              have h3 := escL_len hx
              have := ih _ _ _ _ _ (by simp; omega) h
              simp only [List.length_drop, List.length_cons] at this
              omega
          · rw [strL_char _ _ _ _ c34 c32 c92] at h
            have := ih _ _ _ _ _ (by omega) h
            omega

set_option maxHeartbeats 4000000 in
set_option maxRecDepth 100000 in
theorem unquote_any (s : ByteArray) (w : World) (hs : s.size ≤ 1000000000000) :
    Calls Tryd.prog 14 #[.string s] w (UnqAns w (unqL s.data.toList)) := by
  by_cases hlong : 4096 < s.size
  · have hR : unqL s.data.toList = .error (110, 4096) := by simp [unqL, hlong]
    rw [hR]
    have hI : (4096 : Int) < (s.size : Int) := by omega
    clear hR
    go_enter Tryd.func14, Tryd.ntmps14
    go_wp2_with (go_at_call 26; refine (fault_any _ _ _).mono ?_; rintro e w5 ⟨rfl, rfl⟩)
    go_ret2
    exact ⟨w.heap.size, rfl, Nat.le_refl _, Go.heap_alloc_new _ _, (Below.refl _ _).alloc (Nat.le_refl _) _⟩
  have hI : ¬ ((4096 : Int) < (s.size : Int)) := by omega
  by_cases h0 : s.size = 0
  · obtain rfl : s = ⟨#[]⟩ := by apply ByteArray.ext; exact Array.eq_empty_of_size_eq_zero (by simpa using h0)
    have hR : unqL [] = .error (111, 0) := by simp [unqL]
    simp only
    rw [hR]
    clear hR
    go_enter Tryd.func14, Tryd.ntmps14
    go_wp2_with (go_at_call 26; refine (fault_any _ _ _).mono ?_; rintro e w5 ⟨rfl, rfl⟩)
    go_ret2
    exact ⟨w.heap.size, rfl, Nat.le_refl _, Go.heap_alloc_new _ _, (Below.refl _ _).alloc (Nat.le_refl _) _⟩
  have h1 : 0 < s.size := by omega
  have hnl : ¬ s.toList = [] := by
    rw [ByteArray.toList_eq]; intro e; have h2 : s.data.toList.length = 0 := by rw [e]; rfl
    rw [Array.length_toList] at h2; exact h0 h2
  have hne : s.toList.isEmpty = false := by simpa using hnl
  have hD := drop_at s 0 h1
  rw [List.drop_zero] at hD
  by_cases c34 : s[0] = 34
  · have TC := Lib.hid (fun W => text_any s 0 W hs h1)
    have e34 : ((s[0].toNat : Int) != 34) = false := byte_bnf s[0] 34 c34
    have hR : unqL s.data.toList = unqC s.size (textAt s.data.toList 0) := by
      have : s.data.toList.head? = some 34 := by rw [hD, c34]; rfl
      simp [unqL, hlong, this]
    rw [hR]
    clear hR hD c34
    generalize textAt s.data.toList 0 = r at TC ⊢
    cases r with
    | error f =>
      obtain ⟨c, a⟩ := f
      go_enter Tryd.func14, Tryd.ntmps14
      go_wp2_with (go_at_call 27; refine (TC.out _).mono ?_; rintro e w5 ⟨b, rfl, hb, hf, hB⟩)
      go_ret2
      exact ⟨b, rfl, hb, (Below.heap_alloc _ _ _ (Array.getElem?_eq_some_iff.1 hf).1).trans hf, hB.alloc hB.size _⟩
    | ok t =>
      have hcz := tokCells t
      by_cases hlt : t.end_ < s.size
      · have hI2 : (t.end_ : Int) < (s.size : Int) := by omega
        have hC : unqC s.size (.ok t) = .error (111, t.end_) := by simp [unqC, hlt]
        rw [hC]
        clear hC
        go_enter Tryd.func14, Tryd.ntmps14
        go_wp2_with (first | (go_at_call 27; refine (TC.out _).mono ?_; rintro e w5 hL; obtain ⟨rfl, hB⟩ : e = .returned (.tuple #[.agg #[.int .i64 t.kind, .string ⟨t.text.toArray⟩, .int .i64 t.num, .int .i64 t.at_, .int .i64 t.end_], .pointer none]) ∧ Below w.heap.size w w5 := hL) | (go_at_call 26; refine (fault_any _ _ _).mono ?_; rintro e w6 ⟨rfl, rfl⟩))
        go_ret2
        refine ⟨w5.heap.size + 1, rfl, by have := hB.size; omega, ?_, (hB.alloc hB.size _).alloc (by simp; have := hB.size; omega) _⟩
        have := Go.heap_alloc_new (w5.alloc (.cells #[.int .i64 t.kind, .string ⟨t.text.toArray⟩, .int .i64 t.num, .int .i64 t.at_, .int .i64 t.end_] 44)) (faultObj 111 t.end_)
        simpa using this
      · have hI2 : ¬ ((t.end_ : Int) < (s.size : Int)) := by omega
        have hC : unqC s.size (.ok t) = .ok t.text := by simp [unqC, hlt]
        rw [hC]
        clear hC
        go_enter Tryd.func14, Tryd.ntmps14
        go_wp2_with (first | (go_at_call 27; refine (TC.out _).mono ?_; rintro e w5 hL; obtain ⟨rfl, hB⟩ : e = .returned (.tuple #[.agg #[.int .i64 t.kind, .string ⟨t.text.toArray⟩, .int .i64 t.num, .int .i64 t.at_, .int .i64 t.end_], .pointer none]) ∧ Below w.heap.size w w5 := hL) | (go_at_call 26; refine (fault_any _ _ _).mono ?_; rintro e w6 ⟨rfl, rfl⟩))
        go_ret2
        exact ⟨rfl, hB.alloc hB.size _⟩
  · have hR : unqL s.data.toList = .error (111, 0) := by
      have : ¬ s.data.toList.head? = some 34 := by rw [hD]; simpa using c34
      simp [unqL, hlong, this]
    rw [hR]
    have n34 : ((s[0].toNat : Int) != 34) = true := byte_bnt s[0] 34 (by decide) c34
    clear hR hD c34
    go_enter Tryd.func14, Tryd.ntmps14
    go_wp2_with (go_at_call 26; refine (fault_any _ _ _).mono ?_; rintro e w5 ⟨rfl, rfl⟩)
    go_ret2
    exact ⟨w.heap.size, rfl, Nat.le_refl _, Go.heap_alloc_new _ _, (Below.refl _ _).alloc (Nat.le_refl _) _⟩

theorem head_at (s : ByteArray) : s.data.toList.head? = some 34 ↔ atB s 0 = 34 := by
  by_cases h : 0 < s.size
  · have hD := drop_at s 0 h
    rw [List.drop_zero] at hD
    rw [atB_lt h, hD]; simp
  · rw [atB_ge h]
    have : s.data.toList = [] := List.eq_nil_of_length_eq_zero (by rw [Array.length_toList]; show s.size = 0; omega)
    rw [this]; simp
set_option maxHeartbeats 4000000 in
set_option maxRecDepth 100000 in
theorem refUnquote_any (s : ByteArray) (w : World) (hs : s.size ≤ 1000000000000) :
    Calls Tryd.prog 15 #[.string s] w fun e w' => e = .returned (unqV (unqL s.data.toList)) ∧ Below w.heap.size w w' := by
  by_cases hlong : 4096 < s.size
  · have hR : unqL s.data.toList = .error (110, 4096) := by simp [unqL, hlong]
    rw [hR]
    have hI : (4096 : Int) < (s.size : Int) := by omega
    clear hR
    go_enter Tryd.func15, Tryd.ntmps15
    go_wp2
    go_ret3
    exact ⟨rfl, Below.refl _ _⟩
  have hI : ¬ ((4096 : Int) < (s.size : Int)) := by omega
  have B0 := Lib.hid (fun x (hx : x = ((0 : Nat) : Int)) W => byteAt_any s x 0 hx W)
  by_cases c34 : atB s 0 = 34
  · have h1 : 0 < s.size := by
      apply Classical.byContradiction; intro h; rw [atB_ge h] at c34; exact absurd c34 (by decide)
    have TC := Lib.hid (fun W => refText_any s 0 W hs h1)
    have e34 : (((atB s 0).toNat : Int) != 34) = false := byte_bnf (atB s 0) 34 c34
    have hR : unqL s.data.toList = unqC s.size (textAt s.data.toList 0) := by
      have : s.data.toList.head? = some 34 := (head_at s).2 c34
      simp [unqL, hlong, this]
    rw [hR, textAt_eq]
    have hle := strL_le s.size (s.data.toList.drop (0 + 1)) (0 + 1) []
    clear hR c34
    generalize atB s 0 = e0 at B0 e34
    generalize strL (s.data.toList.drop (0 + 1)) (0 + 1) [] = R at TC hle ⊢
    have fin : ∀ (c : Int) (a : Nat), c ≠ 0 → Hid (∀ W, Calls Tryd.prog 29 #[.string s, .int .i64 ((0 : Nat) : Int)] W fun e w' => e = .returned (.tuple #[.string ⟨#[]⟩, .int .i64 0, .int .i64 c, .int .i64 (a : Nat)]) ∧ Below W.heap.size W w') → Calls Tryd.prog 15 #[.string s] w fun e w' => e = .returned (unqV (.error (c, a))) ∧ Below w.heap.size w w' := by
      intro c a hc TD
      have hc2 : (c != 0) = true := by simpa using hc
      clear TC hle hc
      go_enter Tryd.func15, Tryd.ntmps15
      go_wp2_with (first | (go_at_call 28; (with_reducible refine (B0.out _ (by omega) _).mono ?_); rintro e w5 ⟨rfl, rfl⟩) | (go_at_call 29; refine (TD.out _).mono ?_; rintro e w6 ⟨rfl, hB⟩))
      go_ret3
      exact ⟨rfl, hB⟩
    cases R with
    | open_ => exact fin 112 0 (by decide) TC
    | byte p => exact fin 111 p (by decide) TC
    | esc p => exact fin 113 p (by decide) TC
    | done b e =>
      have he := hle b e (by simp) rfl
      by_cases h127 : 127 < b.length
      · simp only [textV, if_pos h127] at TC
        simp only [strRes, if_pos h127, unqC]
        exact fin 115 0 (by decide) TC
      · simp only [textV, if_neg h127] at TC
        simp only [strRes, if_neg h127, unqC]
        have hdl : (s.data.toList.drop (0 + 1)).length = s.size - 1 := by simp
        rw [hdl] at he
        clear fin hle h127
        by_cases hlt : e < s.size
        · rw [if_pos hlt]
          have hI2 : (e : Int) < (s.size : Int) := by omega
          go_enter Tryd.func15, Tryd.ntmps15
          go_wp2_with (first | (go_at_call 28; (with_reducible refine (B0.out _ (by omega) _).mono ?_); rintro e w5 ⟨rfl, rfl⟩) | (go_at_call 29; refine (TC.out _).mono ?_; rintro e w6 ⟨rfl, hB⟩))
          go_ret3
          exact ⟨rfl, hB⟩
        · rw [if_neg hlt]
          have hI2 : ¬ ((e : Int) < (s.size : Int)) := by omega
          go_enter Tryd.func15, Tryd.ntmps15
          go_wp2_with (first | (go_at_call 28; (with_reducible refine (B0.out _ (by omega) _).mono ?_); rintro e w5 ⟨rfl, rfl⟩) | (go_at_call 29; refine (TC.out _).mono ?_; rintro e w6 ⟨rfl, hB⟩))
          go_ret3
          exact ⟨rfl, hB⟩
  · have hR : unqL s.data.toList = .error (111, 0) := by
      have : ¬ s.data.toList.head? = some 34 := fun h => c34 ((head_at s).1 h)
      simp [unqL, hlong, this]
    rw [hR]
    have n34 : (((atB s 0).toNat : Int) != 34) = true := byte_bnt (atB s 0) 34 (by decide) c34
    clear hR c34
    generalize atB s 0 = e0 at B0 n34
    go_enter Tryd.func15, Tryd.ntmps15
    go_wp2_with (go_at_call 28; (with_reducible refine (B0.out _ (by omega) _).mono ?_); rintro e w5 ⟨rfl, rfl⟩)
    go_ret3
    exact ⟨rfl, Below.refl _ _⟩

end Go.Proofs.YthcdmnndhjbbfaaDoor.X
