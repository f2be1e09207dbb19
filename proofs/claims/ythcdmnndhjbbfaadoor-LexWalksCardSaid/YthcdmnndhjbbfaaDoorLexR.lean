/-
  The walk of the reference's Number.
-/
import Derived.Test.YthcdmnndhjbbfaaDoorLexU
import Derived.Test.YthcdmnndhjbbfaaDoorLexC
set_option linter.unusedVariables false
set_option linter.unusedSimpArgs false
namespace Go.Proofs.YthcdmnndhjbbfaaDoor.X
open Go.RowKit
def numV : Option Int → Value
  | some n => .tuple #[.int .i64 n, .bool true]
  | none => .tuple #[.int .i64 0, .bool false]
theorem take_at (D : ByteArray) (k : Nat) (h : k < D.size) : D.data.toList.take (k + 1) = D.data.toList.take k ++ [D[k]] := by
  rw [List.take_succ_eq_append_getElem (by simpa using h)]; rfl
theorem take_small (D : ByteArray) (k : Nat) (h : digsB (D.data.toList.take k) = true) (hk : k ≤ 18) : valN 0 (D.data.toList.take k) < 1000000000000000000 :=
  val18 _ h (by rw [List.length_take]; omega)
theorem take_17 (D : ByteArray) (k : Nat) (h : digsB (D.data.toList.take k) = true) (hk : k ≤ 17) : valN 0 (D.data.toList.take k) < 100000000000000000 := by
  have h1 := valN_small _ 0 h
  have h2 : 10 ^ (D.data.toList.take k).length ≤ 10 ^ 17 := Nat.pow_le_pow_right (by omega) (by rw [List.length_take]; omega)
  rw [show 0 + 1 = 1 from rfl, Nat.one_mul] at h1
  have h3 : (10 : Nat) ^ 17 = 100000000000000000 := by decide
  omega
theorem digs_take {l : Bs} (k : Nat) (h : digsB l = true) : digsB (l.take k) = true := by
  simp only [digsB, List.all_eq_true] at h ⊢
  exact fun x hx => h x (List.mem_of_mem_take hx)
theorem digs_not (D : ByteArray) (k : Nat) (h : k < D.size) (hd : digB D[k] = false) : digsB D.data.toList = false := by
  cases hx : digsB D.data.toList with
  | false => rfl
  | true =>
    simp only [digsB, List.all_eq_true] at hx
    have h2 : D[k] ∈ D.data.toList := by
      have := List.getElem_mem (l := D.data.toList) (n := k) (by simpa using h)
      exact this
    rw [hx _ h2] at hd; cases hd

set_option maxHeartbeats 8000000 in
set_option maxRecDepth 100000 in
theorem refNum_minus (s : ByteArray) (w : World) (hs : s.size ≤ 1000000000000) (h0 : 0 < s.size) (c45 : s[0] = 45) :
    Calls Tryd.prog 40 #[.string s] w fun e w' => e = .returned (numV (refBody s.data.toList (s.extract 1 s.size).data.toList)) ∧ w = w' := by
  have hI0 : (0 : Int) < (s.size : Int) := by omega
  have hm : (s.extract 1 s.size).size = s.size - 1 := by simp
  have hdl : (s.extract 1 s.size).data.toList.length = (s.extract 1 s.size).size := by rw [Array.length_toList]; rfl
  have hsl : s.data.toList.length = s.size := by rw [Array.length_toList]; rfl
  have e45 : ((s[0].toNat : Int) == 45) = true := byte_eq s[0] 45 c45
  obtain ⟨R, hR⟩ : ∃ R, R = refBody s.data.toList (s.extract 1 s.size).data.toList := ⟨_, rfl⟩
  rw [← hR]
  by_cases c1 : s.size - 1 < 1
  · have HR : Hid (R = none) := Lib.hid (by rw [hR]; unfold refBody; rw [if_pos (by omega)])
    have hI1 : ((s.size - 1 : Nat) : Int) < 1 := by omega
    clear hR hm hdl hsl
    go_enter Tryd.func40, Tryd.ntmps40
    go_wp2
    go_ret2
    exact ⟨by rw [HR.out]; rfl, rfl⟩
  by_cases c2 : 18 < s.size - 1
  · have HR : Hid (R = none) := Lib.hid (by rw [hR]; unfold refBody; rw [if_pos (by omega)])
    have hI1 : ¬ (((s.size - 1 : Nat) : Int) < 1) := by omega
    have hI2 : (18 : Int) < ((s.size - 1 : Nat) : Int) := by omega
    clear hR hm hdl hsl
    go_enter Tryd.func40, Tryd.ntmps40
    go_wp2
    go_ret2
    exact ⟨by rw [HR.out]; rfl, rfl⟩
  have hI1 : ¬ (((s.size - 1 : Nat) : Int) < 1) := by omega
  have hI2 : ¬ ((18 : Int) < ((s.size - 1 : Nat) : Int)) := by omega
  have HR := Lib.hid hR
  have HM := Lib.hid hm
  clear hR hm hdl hsl
  go_enter Tryd.func40, Tryd.ntmps40
  go_wp2
  go_loopw [5, 6] (fun nv iv wr => ∃ k : Nat, k ≤ s.size - 1 ∧ iv = .int .i64 k ∧ nv = .int .i64 (valN 0 ((s.extract 1 s.size).data.toList.take k) : Nat) ∧ Hid (digsB ((s.extract 1 s.size).data.toList.take k) = true) ∧ w = wr) (fun _ iv _ => s.size - 1 - (intOf iv).toNat)
  case atStart => exact ⟨0, Nat.zero_le _, rfl, rfl, Lib.hid rfl, rfl⟩
  case round =>
    obtain ⟨k, hk, rfl, rfl, HG, rfl⟩ := hrel
    by_cases hlt : k < s.size - 1
    · have hI3 : (k : Int) < ((s.size - 1 : Nat) : Int) := by omega
      have hlt2 : k < (s.extract 1 s.size).size := by rw [HM.out]; exact hlt
      have DC := Lib.hid (fun W => refDigit_any (s.extract 1 s.size)[k] W)
      cases hd : digB (s.extract 1 s.size)[k] with
      | true =>
        have hn := dig_nat hd
        have hv := take_17 (s.extract 1 s.size) k HG.out (by omega)
        have hc1 : (48 : Int) ≤ ((s.extract 1 s.size)[k].toNat : Int) := by omega
        have hc2 : ((s.extract 1 s.size)[k].toNat : Int) ≤ 57 := by omega
        have HG2 : Hid (digsB ((s.extract 1 s.size).data.toList.take (k + 1)) = true) := Lib.hid (by rw [take_at _ _ hlt2]; simp only [digsB, List.all_append, Bool.and_eq_true]; exact ⟨HG.out, by simpa using hd⟩)
        have HV : Hid ((valN 0 ((s.extract 1 s.size).data.toList.take (k + 1)) : Int) = 10 * (valN 0 ((s.extract 1 s.size).data.toList.take k) : Int) + (((s.extract 1 s.size)[k].toNat : Int) - 48)) := Lib.hid (by rw [take_at _ _ hlt2, valN_append, stepN_eq]; omega)
        rw [hd] at DC
        clear hd hn
        generalize valN 0 ((s.extract 1 s.size).data.toList.take k) = n at hv HV ⊢
        go_wp2_with (go_at_call 38; refine (DC.out _).mono ?_; rintro e w3 ⟨rfl, rfl⟩)
        go_roundw
        case rel => exact ⟨k + 1, by omega, by go_num, by rw [HV.out], HG2, trivial⟩
        case measure => simp [intOf]; omega
      | false =>
        have HE : Hid (R = none) := Lib.hid (by rw [HR.out]; unfold refBody; rw [digs_not _ _ hlt2 hd]; simp)
        rw [hd] at DC
        clear hd
        go_wp2_with (go_at_call 38; refine (DC.out _).mono ?_; rintro e w3 ⟨rfl, rfl⟩)
        go_ret2
        exact ⟨by rw [HE.out]; rfl, rfl⟩
    · have hI3 : ¬ ((k : Int) < ((s.size - 1 : Nat) : Int)) := by omega
      have hke : k = (s.extract 1 s.size).size := by rw [HM.out]; omega
      have htk : (s.extract 1 s.size).data.toList.take k = (s.extract 1 s.size).data.toList := by rw [hke]; exact List.take_of_length_le (by rw [Array.length_toList]; exact Nat.le_refl _)
      have hG := HG.out
      rw [htk] at hG
      have hv := take_small (s.extract 1 s.size) k HG.out (by omega)
      rw [htk] at hv ⊢
      have hd0 : 0 < (s.extract 1 s.size).size := by rw [HM.out]; omega
      have hdl : (s.extract 1 s.size).data.toList.length = s.size - 1 := by rw [Array.length_toList]; exact HM.out
      have hsl : s.data.toList.length = s.size := by rw [Array.length_toList]; rfl
      have hhead : (s.extract 1 s.size).data.toList.head? = some (s.extract 1 s.size)[0] := by
        have h := drop_at (s.extract 1 s.size) 0 hd0
        rw [List.drop_zero] at h
        rw [h]; rfl
      have hrun : s.data.toList ≠ [48] := by
        intro e
        have h := drop_at s 0 h0
        rw [List.drop_zero, e, c45] at h
        simp at h
      have hne : (s.toList == [48]) = false := by rw [ByteArray.toList_eq]; simpa using hrun
      by_cases c0 : (s.extract 1 s.size)[0] = 48
      · have HE : Hid (R = none) := Lib.hid (by rw [HR.out]; unfold refBody; rw [if_neg (by omega), if_neg (by rw [hG]; simp), if_pos ⟨by rw [hhead, c0], hrun⟩])
        have e48 : (((s.extract 1 s.size)[0].toNat : Int) == 48) = true := byte_eq _ 48 c0
        generalize valN 0 (s.extract 1 s.size).data.toList = n at hv ⊢
        clear hhead hrun hdl hsl hG htk c0 hke HG
        go_wp2
        go_ret2
        exact ⟨by rw [HE.out]; rfl, rfl⟩
      · have HE : Hid (R = some (-(valN 0 (s.extract 1 s.size).data.toList : Int))) := Lib.hid (by rw [HR.out]; unfold refBody; rw [if_neg (by omega), if_neg (by rw [hG]; simp), if_neg (fun h => c0 (by have h1 := h.1; rw [hhead] at h1; exact Option.some.inj h1)), if_pos (by omega)])
        have n48 : (((s.extract 1 s.size)[0].toNat : Int) == 48) = false := byte_ne _ 48 (by decide) c0
        have hls : ((s.size - 1 : Nat) : Int) < (s.size : Int) := by omega
        generalize valN 0 (s.extract 1 s.size).data.toList = n at hv HE ⊢
        clear hhead hrun hdl hsl hG htk c0 hke HG
        go_wp2
        go_ret2
        exact ⟨by rw [HE.out]; rfl, rfl⟩

set_option maxHeartbeats 8000000 in
set_option maxRecDepth 100000 in
theorem refNum_plain (s : ByteArray) (w : World) (hs : s.size ≤ 1000000000000) (h0 : 0 < s.size) (c45 : ¬ s[0] = 45) :
    Calls Tryd.prog 40 #[.string s] w fun e w' => e = .returned (numV (refBody s.data.toList s.data.toList)) ∧ w = w' := by
  have hI0 : (0 : Int) < (s.size : Int) := by omega
  have hm : s.size = s.size := rfl
  have hdl : s.data.toList.length = s.size := by rw [Array.length_toList]; rfl
  have hsl : s.data.toList.length = s.size := by rw [Array.length_toList]; rfl
  have e45 : ((s[0].toNat : Int) == 45) = false := byte_ne s[0] 45 (by decide) c45
  obtain ⟨R, hR⟩ : ∃ R, R = refBody s.data.toList s.data.toList := ⟨_, rfl⟩
  rw [← hR]
  by_cases c1 : s.size < 1
  · have HR : Hid (R = none) := Lib.hid (by rw [hR]; unfold refBody; rw [if_pos (by omega)])
    have hI1 : (s.size : Int) < 1 := by omega
    clear hR hm hdl hsl
    go_enter Tryd.func40, Tryd.ntmps40
    go_wp2
    go_ret2
    exact ⟨by rw [HR.out]; rfl, rfl⟩
  by_cases c2 : 18 < s.size
  · have HR : Hid (R = none) := Lib.hid (by rw [hR]; unfold refBody; rw [if_pos (by omega)])
    have hI1 : ¬ ((s.size : Int) < 1) := by omega
    have hI2 : (18 : Int) < (s.size : Int) := by omega
    clear hR hm hdl hsl
    go_enter Tryd.func40, Tryd.ntmps40
    go_wp2
    go_ret2
    exact ⟨by rw [HR.out]; rfl, rfl⟩
  have hI1 : ¬ ((s.size : Int) < 1) := by omega
  have hI2 : ¬ ((18 : Int) < (s.size : Int)) := by omega
  have HR := Lib.hid hR
  have HM := Lib.hid hm
  clear hR hm hdl hsl
  go_enter Tryd.func40, Tryd.ntmps40
  go_wp2
  go_loopw [5, 6] (fun nv iv wr => ∃ k : Nat, k ≤ s.size ∧ iv = .int .i64 k ∧ nv = .int .i64 (valN 0 (s.data.toList.take k) : Nat) ∧ Hid (digsB (s.data.toList.take k) = true) ∧ w = wr) (fun _ iv _ => s.size - (intOf iv).toNat)
  case atStart => exact ⟨0, Nat.zero_le _, rfl, rfl, Lib.hid rfl, rfl⟩
  case round =>
    obtain ⟨k, hk, rfl, rfl, HG, rfl⟩ := hrel
    by_cases hlt : k < s.size
    · have hI3 : (k : Int) < (s.size : Int) := by omega
      have hlt2 : k < s.size := by exact hlt
      have DC := Lib.hid (fun W => refDigit_any s[k] W)
      cases hd : digB s[k] with
      | true =>
        have hn := dig_nat hd
        have hv := take_17 s k HG.out (by omega)
        have hc1 : (48 : Int) ≤ (s[k].toNat : Int) := by omega
        have hc2 : (s[k].toNat : Int) ≤ 57 := by omega
        have HG2 : Hid (digsB (s.data.toList.take (k + 1)) = true) := Lib.hid (by rw [take_at _ _ hlt2]; simp only [digsB, List.all_append, Bool.and_eq_true]; exact ⟨HG.out, by simpa using hd⟩)
        have HV : Hid ((valN 0 (s.data.toList.take (k + 1)) : Int) = 10 * (valN 0 (s.data.toList.take k) : Int) + ((s[k].toNat : Int) - 48)) := Lib.hid (by rw [take_at _ _ hlt2, valN_append, stepN_eq]; omega)
        rw [hd] at DC
        clear hd hn
        generalize valN 0 (s.data.toList.take k) = n at hv HV ⊢
        go_wp2_with (go_at_call 38; refine (DC.out _).mono ?_; rintro e w3 ⟨rfl, rfl⟩)
        go_roundw
        case rel => exact ⟨k + 1, by omega, by go_num, by rw [HV.out], HG2, trivial⟩
        case measure => simp [intOf]; omega
      | false =>
        have HE : Hid (R = none) := Lib.hid (by rw [HR.out]; unfold refBody; rw [digs_not _ _ hlt2 hd]; simp)
        rw [hd] at DC
        clear hd
        go_wp2_with (go_at_call 38; refine (DC.out _).mono ?_; rintro e w3 ⟨rfl, rfl⟩)
        go_ret2
        exact ⟨by rw [HE.out]; rfl, rfl⟩
    · have hI3 : ¬ ((k : Int) < (s.size : Int)) := by omega
      have hke : k = s.size := by omega
      have htk : s.data.toList.take k = s.data.toList := by rw [hke]; exact List.take_of_length_le (by rw [Array.length_toList]; exact Nat.le_refl _)
      have hG := HG.out
      rw [htk] at hG
      have hv := take_small s k HG.out (by omega)
      rw [htk] at hv ⊢
      have hd0 : 0 < s.size := by omega
      have hdl : s.data.toList.length = s.size := by rw [Array.length_toList]; rfl
      have hsl : s.data.toList.length = s.size := by rw [Array.length_toList]; rfl
      have hhead : s.data.toList.head? = some s[0] := by
        have h := drop_at s 0 hd0
        rw [List.drop_zero] at h
        rw [h]; rfl
      have fin : ∀ (hne : Hid (R = some (valN 0 s.data.toList : Int))), R = some (valN 0 s.data.toList : Int) := fun h => h.out
      have hls : ¬ ((s.size : Int) < (s.size : Int)) := by omega
      by_cases c0 : s[0] = 48
      · have e48 : ((s[0].toNat : Int) == 48) = true := byte_eq _ 48 c0
        by_cases hrun : s.data.toList = [48]
        · have hne : (s.toList == [48]) = true := by rw [ByteArray.toList_eq, hrun]; rfl
          have HE : Hid (R = some (valN 0 s.data.toList : Int)) := Lib.hid (by rw [HR.out]; unfold refBody; rw [if_neg (by omega), if_neg (by rw [hG]; simp), if_neg (fun h => h.2 hrun), if_neg (by omega)])
          generalize valN 0 s.data.toList = n at hv HE ⊢
          clear hhead hrun hdl hsl hG htk c0 hke HG fin
          go_wp2
          go_ret2
          exact ⟨by rw [HE.out]; rfl, rfl⟩
        · have hne : (s.toList == [48]) = false := by rw [ByteArray.toList_eq]; simpa using hrun
          have HE : Hid (R = none) := Lib.hid (by rw [HR.out]; unfold refBody; rw [if_neg (by omega), if_neg (by rw [hG]; simp), if_pos ⟨by rw [hhead, c0], hrun⟩])
          generalize valN 0 s.data.toList = n at hv fin ⊢
          clear hhead hrun hdl hsl hG htk c0 hke HG fin
          go_wp2
          go_ret2
          exact ⟨by rw [HE.out]; rfl, rfl⟩
      · have HE : Hid (R = some (valN 0 s.data.toList : Int)) := Lib.hid (by rw [HR.out]; unfold refBody; rw [if_neg (by omega), if_neg (by rw [hG]; simp), if_neg (fun h => c0 (by have h1 := h.1; rw [hhead] at h1; exact Option.some.inj h1)), if_neg (by omega)])
        have n48 : ((s[0].toNat : Int) == 48) = false := byte_ne _ 48 (by decide) c0
        generalize valN 0 s.data.toList = n at hv HE fin ⊢
        clear hhead hdl hsl hG htk c0 hke HG fin
        go_wp2
        go_ret2
        exact ⟨by rw [HE.out]; rfl, rfl⟩

theorem tail_bytes (s : ByteArray) : (s.extract 1 s.size).data.toList = s.data.toList.tail := by
  simp only [ByteArray.data_extract, Array.toList_extract, List.extract_eq_take_drop]
  rw [List.take_of_length_le (by simp), List.drop_one]
set_option maxRecDepth 100000 in
theorem refNumber_any (s : ByteArray) (w : World) (hs : s.size ≤ 1000000000000) :
    Calls Tryd.prog 40 #[.string s] w fun e w' => e = .returned (numV (refNum s.data.toList)) ∧ w = w' := by
  by_cases h0 : 0 < s.size
  · have hD := drop_at s 0 h0
    rw [List.drop_zero] at hD
    have hh : s.data.toList.head? = some s[0] := by rw [hD]; rfl
    by_cases c45 : s[0] = 45
    · have h := refNum_minus s w hs h0 c45
      rw [tail_bytes] at h
      unfold refNum
      rw [if_pos (by rw [hh, c45])]
      exact h
    · unfold refNum
      rw [if_neg (by rw [hh]; simpa using c45)]
      exact refNum_plain s w hs h0 c45
  · obtain rfl : s = ⟨#[]⟩ := by apply ByteArray.ext; exact Array.eq_empty_of_size_eq_zero (show s.size = 0 by omega)
    have hR : refNum (⟨#[]⟩ : ByteArray).data.toList = none := rfl
    rw [hR]
    go_enter Tryd.func40, Tryd.ntmps40
    go_wp2
    go_ret2
    exact ⟨rfl, rfl⟩

end Go.Proofs.YthcdmnndhjbbfaaDoor.X
