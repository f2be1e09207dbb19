/-
  The walk of escape.
-/
import Derived.Test.YthcdmnndhjbbfaaDoorLexP
import Derived.Deep.RegionHeld3
set_option linter.unusedVariables false
set_option linter.unusedSimpArgs false
namespace Go.Proofs.YthcdmnndhjbbfaaDoor.X
open Go.RowKit
/-- What an escape stands for, of what stands behind its backslash: the byte, the length with the backslash. -/
def escL : Bs → Option (UInt8 × Nat)
  | [] => none
  | e :: l =>
    if e = 34 ∨ e = 92 then some (e, 2) else if e = 110 then some (10, 2) else if e = 116 then some (9, 2) else if e = 114 then some (13, 2)
    else if e = 120 then match l with
      | h1 :: h2 :: _ => if hexB h1 && hexB h2 then some (16 * hexV h1 + hexV h2, 4) else none
      | _ => none
    else none
/-- How it goes on. -/
def escK (l : Bs) (off : Nat) (acc : Bs) : Option (UInt8 × Nat) → StrR
  | none => .esc off
  | some (b, n) => strL (l.drop n) (off + n) (acc ++ [b])
theorem strL_esc (l : Bs) (off : Nat) (acc : Bs) : strL (92 :: l) off acc = escK (92 :: l) off acc (escL l) := by
  rw [strL.eq_def]
  unfold escK
  simp only [show ¬ ((92 : UInt8) = 34) by decide, show ¬ ((92 : UInt8) < 32) by decide, if_false, if_true]
  cases l with
  | nil => simp [escL]
  | cons e l =>
    simp only [escL]
    by_cases h1 : e = 34 ∨ e = 92
    · simp [h1]
    · by_cases h2 : e = 110
      · simp [h1, h2]
      · by_cases h3 : e = 116
        · simp [h1, h2, h3]
        · by_cases h4 : e = 114
          · simp [h1, h2, h3, h4]
          · by_cases h5 : e = 120
            · simp only [h5]
              match l with
              | [] => simp
              | [x] => simp
              | x :: y :: l =>
                by_cases h6 : (hexB x && hexB y) = true
                · simp [h6]
                · simp [h6]
            · simp [h1, h2, h3, h4, h5]
/-- What escape answers. -/
def escV (o : Option (UInt8 × Nat)) (i : Nat) : Value := match o with
  | none => .tuple #[.int .u8 0, .int .i64 0]
  | some (b, n) => .tuple #[.int .u8 (b.toNat : Int), .int .i64 ((i + n : Nat) : Int)]
theorem hex_sum (a b : UInt8) (ha : hexB a = true) (hb : hexB b = true) : ((16 * hexV a + hexV b : UInt8).toNat : Int) = ((hexV a).toNat : Int) * 16 + ((hexV b).toNat : Int) := by
  have h1 := hexV_lt a ha
  have h2 := hexV_lt b hb
  rw [UInt8.toNat_add, UInt8.toNat_mul]
  simp
  omega
theorem extract_two (s : ByteArray) (i : Nat) (h : i + 1 < s.size) : s.extract i (i + 2) = ⟨#[s[i], s[i + 1]]⟩ := by
  apply ByteArray.ext
  apply Array.ext'
  have h1 : i < s.data.toList.length := by simpa using (show i < s.size by omega)
  have h2 : i + 1 < s.data.toList.length := by simpa using h
  simp only [ByteArray.data_extract, Array.toList_extract, List.extract_eq_take_drop]
  rw [show i + 2 - i = 2 by omega, List.drop_eq_getElem_cons h1, List.take_succ_cons, List.drop_eq_getElem_cons h2, List.take_succ_cons, List.take_zero]
  rfl

set_option maxHeartbeats 8000000 in
set_option maxRecDepth 100000 in
theorem escape_any (s : ByteArray) (i : Nat) (w : World) (hs : s.size ≤ 1000000000000) (hi : i < s.size) :
    Calls Tryd.prog 36 #[.string s, .int .i64 i] w fun e w' => e = .returned (escV (escL (s.data.toList.drop (i + 1))) i) ∧ Below w.heap.size w w' := by
  by_cases h1 : i + 1 < s.size
  · have hD := drop_at s (i + 1) h1
    -- CASES
    have h1I : ¬ ((s.size : Int) ≤ (i : Int) + 1) := by omega
    by_cases c34 : s[i + 1] = 34
    · have hE : escL (s.data.toList.drop (i + 1)) = some (s[i + 1], 2) := by rw [hD]; simp [escL, c34]
      rw [hE]
      have e34 : ((s[i + 1].toNat : Int) == 34) = true := byte_eq s[i + 1] 34 c34
      clear hE hD c34
      go_enter Tryd.func36, Tryd.ntmps36
      go_wp2
      go_ret2
      exact ⟨rfl, Below.refl _ _⟩
    have n34 : ((s[i + 1].toNat : Int) == 34) = false := byte_ne s[i + 1] 34 (by decide) c34
    by_cases c92 : s[i + 1] = 92
    · have hE : escL (s.data.toList.drop (i + 1)) = some (s[i + 1], 2) := by rw [hD]; simp [escL, c34, c92]
      rw [hE]
      have e92 : ((s[i + 1].toNat : Int) == 92) = true := byte_eq s[i + 1] 92 c92
      clear hE hD c34 c92
      go_enter Tryd.func36, Tryd.ntmps36
      go_wp2
      go_ret2
      exact ⟨rfl, Below.refl _ _⟩
    have n92 : ((s[i + 1].toNat : Int) == 92) = false := byte_ne s[i + 1] 92 (by decide) c92
    by_cases c110 : s[i + 1] = 110
    · have hE : escL (s.data.toList.drop (i + 1)) = some (10, 2) := by rw [hD]; simp [escL, c34, c92, c110]
      rw [hE]
      have e110 : ((s[i + 1].toNat : Int) == 110) = true := byte_eq s[i + 1] 110 c110
      clear hE hD c34 c92 c110
      go_enter Tryd.func36, Tryd.ntmps36
      go_wp2
      go_ret2
      exact ⟨rfl, Below.refl _ _⟩
    have n110 : ((s[i + 1].toNat : Int) == 110) = false := byte_ne s[i + 1] 110 (by decide) c110
    by_cases c116 : s[i + 1] = 116
    · have hE : escL (s.data.toList.drop (i + 1)) = some (9, 2) := by rw [hD]; simp [escL, c34, c92, c110, c116]
      rw [hE]
      have e116 : ((s[i + 1].toNat : Int) == 116) = true := byte_eq s[i + 1] 116 c116
      clear hE hD c34 c92 c110 c116
      go_enter Tryd.func36, Tryd.ntmps36
      go_wp2
      go_ret2
      exact ⟨rfl, Below.refl _ _⟩
    have n116 : ((s[i + 1].toNat : Int) == 116) = false := byte_ne s[i + 1] 116 (by decide) c116
    by_cases c114 : s[i + 1] = 114
    · have hE : escL (s.data.toList.drop (i + 1)) = some (13, 2) := by rw [hD]; simp [escL, c34, c92, c110, c116, c114]
      rw [hE]
      have e114 : ((s[i + 1].toNat : Int) == 114) = true := byte_eq s[i + 1] 114 c114
      clear hE hD c34 c92 c110 c116 c114
      go_enter Tryd.func36, Tryd.ntmps36
      go_wp2
      go_ret2
      exact ⟨rfl, Below.refl _ _⟩
    have n114 : ((s[i + 1].toNat : Int) == 114) = false := byte_ne s[i + 1] 114 (by decide) c114
    by_cases c120 : s[i + 1] = 120
    · have e120 : ((s[i + 1].toNat : Int) == 120) = true := byte_eq s[i + 1] 120 c120
      by_cases h4 : i + 4 ≤ s.size
      · have h4I : ¬ ((s.size : Int) < (i : Int) + 4) := by omega
        have hD2 := drop_at s (i + 1 + 1) (by omega)
        have hD3 := drop_at s (i + 1 + 1 + 1) (by omega)
        have hi2 : i + 2 < s.size := by omega
        have hi3 : i + 3 < s.size := by omega
        have hx : s.extract (i + 2) (i + 4) = ⟨#[s[i + 2], s[i + 3]]⟩ := extract_two s (i + 2) hi3
        have HA := Lib.hid (fun W => hex_any s[i + 2] W)
        have HB := Lib.hid (fun W => hex_any s[i + 3] W)
        have hE : escL (s.data.toList.drop (i + 1)) = if hexB s[i + 2] && hexB s[i + 3] then some (16 * hexV s[i + 2] + hexV s[i + 3], 4) else none := by
          rw [hD, hD2, hD3]; simp [escL, c34, c92, c110, c116, c114, c120]
        have PU := Lib.hid (fun (a : hexB s[i + 2] = true) (b : hexB s[i + 3] = true) W => parse_any s[i + 2] s[i + 3] a b W)
        have HS := Lib.hid (hex_sum s[i + 2] s[i + 3])
        rw [hE]
        clear hE hD hD2 hD3 c34 c92 c110 c116 c114 c120
        cases ha : hexB s[i + 2] with
        | false =>
          rw [ha] at HA
          clear ha hx PU HB HS
          go_enter Tryd.func36, Tryd.ntmps36
          go_wp2_with (go_at_call 48; refine (HA.out _).mono ?_; rintro e w5 ⟨rfl, rfl⟩)
          go_ret2
          exact ⟨rfl, Below.refl _ _⟩
        | true =>
          cases hb : hexB s[i + 3] with
          | false =>
            rw [ha] at HA
            rw [hb] at HB
            clear ha hb hx PU HS
            go_enter Tryd.func36, Tryd.ntmps36
            go_wp2_with (first | (go_at_call 48; (with_reducible refine (HA.out _).mono ?_); rintro e w5 ⟨rfl, rfl⟩) | (go_at_call 48; (with_reducible refine (HB.out _).mono ?_); rintro e w5 ⟨rfl, rfl⟩))
            go_ret2
            exact ⟨rfl, Below.refl _ _⟩
          | true =>
            have hs1 := HS.out ha hb
            have PU2 := Lib.hid (fun W => PU.out ha hb W)
            have hr1 := hexV_lt s[i + 2] ha
            have hr2 := hexV_lt s[i + 3] hb
            have HX := Lib.hid hx
            rw [ha] at HA
            rw [hb] at HB
            clear ha hb PU HS hx
            simp only [Bool.and_self, if_true, escV]
            rw [hs1]
            obtain ⟨x, hx⟩ : ∃ x : Int, x = ((hexV s[i + 2]).toNat : Int) := ⟨_, rfl⟩
            obtain ⟨y, hy⟩ : ∃ y : Int, y = ((hexV s[i + 3]).toNat : Int) := ⟨_, rfl⟩
            rw [← hx, ← hy] at PU2 ⊢
            have hx0 : 0 ≤ x := by omega
            have hx1 : x ≤ 15 := by omega
            have hy0 : 0 ≤ y := by omega
            have hy1 : y ≤ 15 := by omega
            clear hx hy hr1 hr2 hs1
            have hx := HX.out
            go_enter Tryd.func36, Tryd.ntmps36
            go_wp2_with (first | (go_at_call 48; (with_reducible refine (HA.out _).mono ?_); rintro e w5 ⟨rfl, rfl⟩) | (go_at_call 48; (with_reducible refine (HB.out _).mono ?_); rintro e w5 ⟨rfl, rfl⟩) | (go_at_call 49; (with_reducible refine (PU2.out _).mono ?_); rintro e w5 ⟨rfl, hB⟩))
            go_ret2
            exact ⟨rfl, hB⟩
      · have h4I : (s.size : Int) < (i : Int) + 4 := by omega
        have hE : escL (s.data.toList.drop (i + 1)) = none := by
          have hlen : (s.data.toList.drop (i + 1)).length ≤ 2 := by simp; omega
          rw [hD] at hlen ⊢
          simp only [escL, c34, c92, c110, c116, c114, c120, or_self, if_false, if_true]
          match hq : s.data.toList.drop (i + 1 + 1), hlen with
          | [], _ => rfl
          | [a], _ => rfl
          | a :: b :: l, h => simp at h
        rw [hE]
        clear hE hD c34 c92 c110 c116 c114 c120
        go_enter Tryd.func36, Tryd.ntmps36
        go_wp2
        go_ret2
        exact ⟨rfl, Below.refl _ _⟩
    have n120 : ((s[i + 1].toNat : Int) == 120) = false := byte_ne s[i + 1] 120 (by decide) c120
    have hE : escL (s.data.toList.drop (i + 1)) = none := by rw [hD]; simp [escL, c34, c92, c110, c116, c114, c120]
    rw [hE]
    clear hE hD c34 c92 c110 c116 c114 c120
    go_enter Tryd.func36, Tryd.ntmps36
    go_wp2
    go_ret2
    exact ⟨rfl, Below.refl _ _⟩
  · have hN : escL (s.data.toList.drop (i + 1)) = none := by rw [drop_end s (i + 1) (by omega)]; rfl
    rw [hN]
    have h1I : (s.size : Int) ≤ (i : Int) + 1 := by omega
    clear hN h1
    go_enter Tryd.func36, Tryd.ntmps36
    go_wp2
    go_ret2
    exact ⟨rfl, Below.refl _ _⟩

end Go.Proofs.YthcdmnndhjbbfaaDoor.X
