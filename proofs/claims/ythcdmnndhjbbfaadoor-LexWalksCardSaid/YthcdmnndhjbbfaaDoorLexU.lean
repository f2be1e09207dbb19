/-
  The walks of Unquote, of the reference's byteAt, escape, TextAt, Unquote.
-/
import Derived.Test.YthcdmnndhjbbfaaDoorLexQ
set_option linter.unusedVariables false
set_option linter.unusedSimpArgs false
namespace Go.Proofs.YthcdmnndhjbbfaaDoor.X
open Go.RowKit
/-- The byte at a place, 0 behind the end. -/
def atB (s : ByteArray) (k : Nat) : UInt8 := if h : k < s.size then s[k] else 0
theorem atB_lt {s : ByteArray} {k : Nat} (h : k < s.size) : atB s k = s[k] := by simp [atB, h]
theorem atB_ge {s : ByteArray} {k : Nat} (h : ¬ k < s.size) : atB s k = 0 := by simp [atB, h]
def escG (e a b : UInt8) : Option (UInt8 × Nat) :=
  if e = 34 ∨ e = 92 then some (e, 2) else if e = 110 then some (10, 2) else if e = 116 then some (9, 2) else if e = 114 then some (13, 2)
  else if e = 120 then if hexB a && hexB b then some (16 * hexV a + hexV b, 4) else none else none
theorem escG_eq (s : ByteArray) (i : Nat) : escL (s.data.toList.drop (i + 1)) = escG (atB s (i + 1)) (atB s (i + 2)) (atB s (i + 3)) := by
  by_cases h1 : i + 1 < s.size
  · rw [drop_at s (i + 1) h1, atB_lt h1]
    unfold escL escG
    by_cases h2 : i + 2 < s.size
    · rw [drop_at s (i + 1 + 1) h2, atB_lt h2]
      by_cases h3 : i + 3 < s.size
      · rw [drop_at s (i + 1 + 1 + 1) h3, atB_lt h3]
      · rw [drop_end s (i + 1 + 1 + 1) (by omega), atB_ge h3]
        have : hexB 0 = false := by decide
        simp [this]
    · have h3 : ¬ i + 3 < s.size := by omega
      rw [drop_end s (i + 1 + 1) (by omega), atB_ge h2, atB_ge h3]
      have : hexB 0 = false := by decide
      simp [this]
  · have h2 : ¬ i + 2 < s.size := by omega
    have h3 : ¬ i + 3 < s.size := by omega
    rw [drop_end s (i + 1) (by omega), atB_ge h1, atB_ge h2, atB_ge h3]
    decide

set_option maxRecDepth 100000 in
theorem byteAt_any (s : ByteArray) (x : Int) (k : Nat) (hx : x = (k : Int)) (w : World) : Calls Tryd.prog 28 #[.string s, .int .i64 x] w fun e w' => e = .returned (.int .u8 ((atB s k).toNat : Int)) ∧ w = w' := by
  subst hx
  by_cases h : k < s.size
  · rw [atB_lt h]
    have h1 : ¬ ((s.size : Int) ≤ (k : Int)) := by omega
    go_enter Tryd.func28, Tryd.ntmps28
    go_wp2
    go_ret
    exact ⟨rfl, rfl⟩
  · rw [atB_ge h]
    have h1 : (s.size : Int) ≤ (k : Int) := by omega
    go_enter Tryd.func28, Tryd.ntmps28
    go_wp2
    go_ret
    exact ⟨rfl, rfl⟩

/-- What the reference's escape answers. -/
def refEscV (o : Option (UInt8 × Nat)) : Value := match o with
  | none => .tuple #[.int .u8 0, .int .i64 0]
  | some (b, n) => .tuple #[.int .u8 (b.toNat : Int), .int .i64 (n : Int)]
theorem hexI_all : ∀ n : Fin 256, hexI n.val.toUInt8 = if hexB n.val.toUInt8 then ((hexV n.val.toUInt8).toNat : Int) else -1 := by decide +kernel
theorem hexI_eq (c : UInt8) : hexI c = if hexB c then ((hexV c).toNat : Int) else -1 := by
  have := hexI_all ⟨c.toNat, c.toNat_lt⟩
  simpa using this
theorem hexI_pos (c : UInt8) (h : hexB c = true) : hexI c = ((hexV c).toNat : Int) := by rw [hexI_eq, h]; rfl
theorem hexI_neg (c : UInt8) (h : hexB c = false) : hexI c = -1 := by rw [hexI_eq, h]; rfl

set_option maxHeartbeats 4000000 in
set_option maxRecDepth 100000 in
theorem refEscape_any (s : ByteArray) (i : Nat) (w : World) (hs : s.size ≤ 1000000000000) (hi : i < s.size) :
    Calls Tryd.prog 37 #[.string s, .int .i64 i] w fun e w' => e = .returned (refEscV (escL (s.data.toList.drop (i + 1)))) ∧ w = w' := by
  rw [escG_eq]
  have B1 := Lib.hid (fun x (hx : x = ((i + 1 : Nat) : Int)) W => byteAt_any s x (i + 1) hx W)
  have B2 := Lib.hid (fun x (hx : x = ((i + 2 : Nat) : Int)) W => byteAt_any s x (i + 2) hx W)
  have B3 := Lib.hid (fun x (hx : x = ((i + 3 : Nat) : Int)) W => byteAt_any s x (i + 3) hx W)
  generalize atB s (i + 1) = e at B1 ⊢
  generalize atB s (i + 2) = a at B2 ⊢
  generalize atB s (i + 3) = b at B3 ⊢
  by_cases c34 : e = 34
  · have hE : escG e a b = some (34, 2) := by simp [escG, c34]
    rw [hE]
    have e34 : ((e.toNat : Int) == 34) = true := byte_eq e 34 c34
    clear hE c34
    go_enter Tryd.func37, Tryd.ntmps37
    go_wp2_with (go_at_call 28; (with_reducible refine (B1.out _ (by omega) _).mono ?_); rintro e w5 ⟨rfl, rfl⟩)
    go_ret2
    exact ⟨rfl, rfl⟩
  have n34 : ((e.toNat : Int) == 34) = false := byte_ne e 34 (by decide) c34
  by_cases c92 : e = 92
  · have hE : escG e a b = some (92, 2) := by simp [escG, c92]
    rw [hE]
    have e92 : ((e.toNat : Int) == 92) = true := byte_eq e 92 c92
    clear hE c34 c92
    go_enter Tryd.func37, Tryd.ntmps37
    go_wp2_with (go_at_call 28; (with_reducible refine (B1.out _ (by omega) _).mono ?_); rintro e w5 ⟨rfl, rfl⟩)
    go_ret2
    exact ⟨rfl, rfl⟩
  have n92 : ((e.toNat : Int) == 92) = false := byte_ne e 92 (by decide) c92
  by_cases c110 : e = 110
  · have hE : escG e a b = some (10, 2) := by simp [escG, c110]
    rw [hE]
    have e110 : ((e.toNat : Int) == 110) = true := byte_eq e 110 c110
    clear hE c34 c92 c110
    go_enter Tryd.func37, Tryd.ntmps37
    go_wp2_with (go_at_call 28; (with_reducible refine (B1.out _ (by omega) _).mono ?_); rintro e w5 ⟨rfl, rfl⟩)
    go_ret2
    exact ⟨rfl, rfl⟩
  have n110 : ((e.toNat : Int) == 110) = false := byte_ne e 110 (by decide) c110
  by_cases c116 : e = 116
  · have hE : escG e a b = some (9, 2) := by simp [escG, c116]
    rw [hE]
    have e116 : ((e.toNat : Int) == 116) = true := byte_eq e 116 c116
    clear hE c34 c92 c110 c116
    go_enter Tryd.func37, Tryd.ntmps37
    go_wp2_with (go_at_call 28; (with_reducible refine (B1.out _ (by omega) _).mono ?_); rintro e w5 ⟨rfl, rfl⟩)
    go_ret2
    exact ⟨rfl, rfl⟩
  have n116 : ((e.toNat : Int) == 116) = false := byte_ne e 116 (by decide) c116
  by_cases c114 : e = 114
  · have hE : escG e a b = some (13, 2) := by simp [escG, c114]
    rw [hE]
    have e114 : ((e.toNat : Int) == 114) = true := byte_eq e 114 c114
    clear hE c34 c92 c110 c116 c114
    go_enter Tryd.func37, Tryd.ntmps37
    go_wp2_with (go_at_call 28; (with_reducible refine (B1.out _ (by omega) _).mono ?_); rintro e w5 ⟨rfl, rfl⟩)
    go_ret2
    exact ⟨rfl, rfl⟩
  have n114 : ((e.toNat : Int) == 114) = false := byte_ne e 114 (by decide) c114
  by_cases c120 : e = 120
  · have e120 : ((e.toNat : Int) == 120) = true := byte_eq e 120 c120
    have HA := Lib.hid (fun W => refHex_any a W)
    have HB := Lib.hid (fun W => refHex_any b W)
    cases ha : hexB a with
    | false =>
      have hE : escG e a b = none := by simp [escG, c120, ha]
      rw [hE]
      rw [hexI_neg a ha] at HA
      clear hE c34 c92 c110 c116 c114 c120 ha
      generalize hexI b = y at HB
      go_enter Tryd.func37, Tryd.ntmps37
      go_wp2_with (first | (go_at_call 28; (with_reducible refine (B1.out _ (by omega) _).mono ?_); rintro e w5 ⟨rfl, rfl⟩) | (go_at_call 28; (with_reducible refine (B2.out _ (by omega) _).mono ?_); rintro e w5 ⟨rfl, rfl⟩) | (go_at_call 28; (with_reducible refine (B3.out _ (by omega) _).mono ?_); rintro e w5 ⟨rfl, rfl⟩) | (go_at_call 50; (with_reducible refine (HA.out _).mono ?_); rintro e w5 ⟨rfl, rfl⟩) | (go_at_call 50; (with_reducible refine (HB.out _).mono ?_); rintro e w5 ⟨rfl, rfl⟩))
      go_ret2
      exact ⟨rfl, rfl⟩
    | true =>
      have hA0 := hexI_pos a ha
      have hr1 := hexV_lt a ha
      cases hb : hexB b with
      | false =>
        have hE : escG e a b = none := by simp [escG, c120, ha, hb]
        rw [hE]
        rw [hexI_neg b hb] at HB
        rw [hA0] at HA
        have hx0 : (0 : Int) ≤ ((hexV a).toNat : Int) := by omega
        clear hE c34 c92 c110 c116 c114 c120 ha hb hA0 hr1
        go_enter Tryd.func37, Tryd.ntmps37
        go_wp2_with (first | (go_at_call 28; (with_reducible refine (B1.out _ (by omega) _).mono ?_); rintro e w5 ⟨rfl, rfl⟩) | (go_at_call 28; (with_reducible refine (B2.out _ (by omega) _).mono ?_); rintro e w5 ⟨rfl, rfl⟩) | (go_at_call 28; (with_reducible refine (B3.out _ (by omega) _).mono ?_); rintro e w5 ⟨rfl, rfl⟩) | (go_at_call 50; (with_reducible refine (HA.out _).mono ?_); rintro e w5 ⟨rfl, rfl⟩) | (go_at_call 50; (with_reducible refine (HB.out _).mono ?_); rintro e w5 ⟨rfl, rfl⟩))
        go_ret2
        exact ⟨rfl, rfl⟩
      | true =>
        have hB0 := hexI_pos b hb
        have hr2 := hexV_lt b hb
        have hs1 := hex_sum a b ha hb
        have hE : escG e a b = some (16 * hexV a + hexV b, 4) := by simp [escG, c120, ha, hb]
        rw [hE]
        simp only [refEscV]
        rw [hs1]
        rw [hA0] at HA
        rw [hB0] at HB
        obtain ⟨x, hx⟩ : ∃ x : Int, x = ((hexV a).toNat : Int) := ⟨_, rfl⟩
        obtain ⟨y, hy⟩ : ∃ y : Int, y = ((hexV b).toNat : Int) := ⟨_, rfl⟩
        rw [← hx] at HA ⊢
        rw [← hy] at HB ⊢
        have hx0 : 0 ≤ x := by omega
        have hx1 : x ≤ 15 := by omega
        have hy0 : 0 ≤ y := by omega
        have hy1 : y ≤ 15 := by omega
        have hw : IntKind.u8.wrap (16 * x + y) = x * 16 + y := by rw [IntWalk.u8_in _ (by omega)]; omega
        clear hE c34 c92 c110 c116 c114 c120 ha hb hA0 hr1 hB0 hr2 hs1 hx hy
        go_enter Tryd.func37, Tryd.ntmps37
        go_wp2_with (first | (go_at_call 28; (with_reducible refine (B1.out _ (by omega) _).mono ?_); rintro e w5 ⟨rfl, rfl⟩) | (go_at_call 28; (with_reducible refine (B2.out _ (by omega) _).mono ?_); rintro e w5 ⟨rfl, rfl⟩) | (go_at_call 28; (with_reducible refine (B3.out _ (by omega) _).mono ?_); rintro e w5 ⟨rfl, rfl⟩) | (go_at_call 50; (with_reducible refine (HA.out _).mono ?_); rintro e w5 ⟨rfl, rfl⟩) | (go_at_call 50; (with_reducible refine (HB.out _).mono ?_); rintro e w5 ⟨rfl, rfl⟩))
        go_ret2
        exact ⟨rfl, rfl⟩
  · have hE : escG e a b = none := by simp [escG, c34, c92, c110, c116, c114, c120]
    rw [hE]
    have n120 : ((e.toNat : Int) == 120) = false := byte_ne e 120 (by decide) c120
    clear hE c34 c92 c110 c116 c114 c120
    go_enter Tryd.func37, Tryd.ntmps37
    go_wp2_with (go_at_call 28; (with_reducible refine (B1.out _ (by omega) _).mono ?_); rintro e w5 ⟨rfl, rfl⟩)
    go_ret2
    exact ⟨rfl, rfl⟩

theorem results_tmp4 {fn : Func} {t u v x : Tmp} (h : fn.results = #[.tmp t, .tmp u, .tmp v, .tmp x]) (tmps : Array Value) (P : Program) (w : World) :
    (results fn tmps).run P w = .ok (.tuple #[tmps.getD t undef, tmps.getD u undef, tmps.getD v undef, tmps.getD x undef]) w := by simp [results, h]
theorem own_none (w : World) : (w.alloc (.cells #[] 5)).ownsRow w.heap.size 5 1 (.slice (some ⟨w.heap.size, 0, none⟩) 0 0) ([] : Bs).length (Lib.byteCells []) := by
  have h := World.ownsRow_lit (base := w.heap.size) (e := 5) (size := 1) w #[] 0 (Nat.le_refl _) (by simp [maxLen]) (by simp)
  simpa [Lib.byteCells] using h
/-- What the reference's TextAt answers, of what the bytes come to. -/
def textV (i : Nat) : StrR → Value
  | .open_ => .tuple #[.string ⟨#[]⟩, .int .i64 0, .int .i64 112, .int .i64 i]
  | .byte p => .tuple #[.string ⟨#[]⟩, .int .i64 0, .int .i64 111, .int .i64 p]
  | .esc p => .tuple #[.string ⟨#[]⟩, .int .i64 0, .int .i64 113, .int .i64 p]
  | .done b e => if 127 < b.length then .tuple #[.string ⟨#[]⟩, .int .i64 0, .int .i64 115, .int .i64 i] else .tuple #[.string ⟨b.toArray⟩, .int .i64 (e : Nat), .int .i64 0, .int .i64 0]

set_option maxHeartbeats 8000000 in
set_option maxRecDepth 100000 in
theorem refText_any (s : ByteArray) (i : Nat) (w : World) (hs : s.size ≤ 1000000000000) (hi : i < s.size) :
    Calls Tryd.prog 29 #[.string s, .int .i64 i] w fun e w' => e = .returned (textV i (strL (s.data.toList.drop (i + 1)) (i + 1) [])) ∧ Below w.heap.size w w' := by
  obtain ⟨R, hR⟩ : ∃ R, R = strL (s.data.toList.drop (i + 1)) (i + 1) [] := ⟨_, rfl⟩
  rw [← hR]
  have HR := Lib.hid hR
  clear hR
  go_enter Tryd.func29, Tryd.ntmps29
  go_wp2
  go_loopw [8, 9] (fun v j wr => ∃ (k : Nat) (acc : Bs), i + 1 ≤ k ∧ k ≤ s.size ∧ acc.length ≤ k ∧ j = .int .i64 k ∧ Hid (R = strL (s.data.toList.drop k) k acc) ∧ Hid (wr.ownsRow w.heap.size 5 1 v acc.length (Lib.byteCells acc)) ∧ Hid (Below w.heap.size w wr)) (fun _ j _ => s.size - (intOf j).toNat)
  case atStart => exact ⟨i + 1, [], Nat.le_refl _, by omega, by simp, by go_num, HR, Lib.hid (own_none w), Lib.hid ((Below.refl _ _).alloc (Nat.le_refl _) _)⟩
  case round =>
    obtain ⟨k, acc, hik, hk, ha, rfl, HK, HO, HB⟩ := hrel
    clear HR
    have hbs := HB.out.size
    by_cases hlt : k < s.size
    · have HD := Lib.hid (drop_at s k hlt)
      have hge : (0 : Int) ≤ (s[k].toNat : Int) := by omega
      by_cases c34 : s[k] = 34
      · have HE : Hid (R = .done acc (k + 1)) := Lib.hid (by rw [HK.out, HD.out, c34, strL_end])
        have e34 : ((s[k].toNat : Int) == 34) = true := byte_eq s[k] 34 c34
        clear c34
        obtain ⟨Av, cv, rfl⟩ := own_slice HO.out
        by_cases h127 : 127 < acc.length
        · have hI : (127 : Int) < (acc.length : Int) := by omega
          have HE : Hid (textV i R = .tuple #[.string ⟨#[]⟩, .int .i64 0, .int .i64 115, .int .i64 i]) := Lib.hid (by rw [HE.out]; simp [textV, h127])
          clear h127
          go_wp2
          (try simp only [Exit.inBlock, Exit.then]); refine bodyPost_ret (results_tmp4 rfl _ _ _) rfl ?_
          exact ⟨by rw [HE.out]; rfl, HB.out⟩
        · have hI : ¬ ((127 : Int) < (acc.length : Int)) := by omega
          have HE : Hid (textV i R = .tuple #[.string ⟨acc.toArray⟩, .int .i64 ((k + 1 : Nat) : Int), .int .i64 0, .int .i64 0]) := Lib.hid (by rw [HE.out]; simp [textV, h127])
          have hcv := conv_bytes HO.out
          clear h127
          go_wp2
          (try simp only [Exit.inBlock, Exit.then]); refine bodyPost_ret (results_tmp4 rfl _ _ _) rfl ?_
          exact ⟨by rw [HE.out]; rfl, HB.out⟩
      · have n34 : ((s[k].toNat : Int) == 34) = false := byte_ne s[k] 34 (by decide) c34
        by_cases c32 : s[k] < 32
        · have HE : Hid (R = .byte k) := Lib.hid (by rw [HK.out, HD.out, strL_low _ _ _ _ c34 c32])
          have hI : (s[k].toNat : Int) < 32 := by rw [UInt8.lt_iff_toNat_lt] at c32; simp at c32; omega
          clear c34 c32
          go_wp2
          (try simp only [Exit.inBlock, Exit.then]); refine bodyPost_ret (results_tmp4 rfl _ _ _) rfl ?_
          exact ⟨by rw [HE.out]; rfl, HB.out⟩
        · have hI : ¬ ((s[k].toNat : Int) < 32) := by rw [UInt8.lt_iff_toNat_lt] at c32; simp at c32; omega
          by_cases c92 : s[k] = 92
          · have HK2 : Hid (R = escK (s.data.toList.drop k) k acc (escL (s.data.toList.drop (k + 1)))) := Lib.hid (by rw [HK.out, HD.out, c92, strL_esc])
            have e92 : ((s[k].toNat : Int) == 92) = true := byte_eq s[k] 92 c92
            have EC := Lib.hid (fun W => refEscape_any s k W hs hlt)
            clear c34 c32 c92
            cases hes : escL (s.data.toList.drop (k + 1)) with
            | none =>
              rw [hes] at EC HK2
              have HE : Hid (R = .esc k) := Lib.hid HK2.out
              simp only [refEscV] at EC
              clear hes
              go_wp2_with (go_at_call 37; refine (EC.out _).mono ?_; rintro e w3 ⟨rfl, rfl⟩)
              (try simp only [Exit.inBlock, Exit.then]); refine bodyPost_ret (results_tmp4 rfl _ _ _) rfl ?_
              exact ⟨by rw [HE.out]; rfl, HB.out⟩
            | some x =>
              obtain ⟨b, n⟩ := x
              have hle := escL_len hes
              have hdl : (s.data.toList.drop (k + 1)).length = s.size - (k + 1) := by simp
              rw [hes] at EC HK2
              have HE : Hid (R = strL (s.data.toList.drop (k + n)) (k + n) (acc ++ [b])) := Lib.hid (by rw [HK2.out]; simp only [escK, List.drop_drop])
              obtain ⟨hn2, hn3, hn4⟩ := hle
              rw [hdl] at hn3
              have hz : ((n : Int) == 0) = false := by simp; omega
              clear hes hdl HK2
              simp only [refEscV] at EC
              go_wp2_with (first | (go_at_call 37; refine (EC.out _).mono ?_; rintro e w3 ⟨rfl, rfl⟩) | (at_builtin; go_loud (refine app_bytes w.heap.size rfl (.tmp 47) (.tmp 49) rfl _ acc [b] _ 1 rfl rfl rfl rfl HO.out HB.out (by omega) (by omega) ?_; intro v1 w4 hown hb4 _)))
              go_roundw
              case rel => exact ⟨k + n, acc ++ [b], by omega, by omega, by simp; omega, by go_num, HE, Lib.hid hown, Lib.hid hb4⟩
              case measure => simp [intOf]; omega
          · have HE : Hid (R = strL (s.data.toList.drop (k + 1)) (k + 1) (acc ++ [s[k]])) := Lib.hid (by rw [HK.out, HD.out, strL_char _ _ _ _ c34 c32 c92])
            have n92 : ((s[k].toNat : Int) == 92) = false := byte_ne s[k] 92 (by decide) c92
            clear c34 c32 c92
            go_wp2_with (at_builtin; go_loud (refine app_bytes w.heap.size rfl (.tmp 54) (.tmp 56) rfl _ acc [s[k]] _ 1 rfl rfl rfl rfl HO.out HB.out (by omega) (by omega) ?_; intro v1 w4 hown hb4 _))
            go_roundw
            case rel => exact ⟨k + 1, acc ++ [s[k]], by omega, by omega, by simp; omega, by go_num, HE, Lib.hid hown, Lib.hid hb4⟩
            case measure => simp [intOf]; omega
    · have hI : ¬ ((k : Int) < (s.size : Int)) := by omega
      have HE : Hid (R = .open_) := Lib.hid (by rw [HK.out, drop_end s k (by omega)]; rfl)
      go_wp2
      (try simp only [Exit.inBlock, Exit.then]); refine bodyPost_ret (results_tmp4 rfl _ _ _) rfl ?_
      exact ⟨by rw [HE.out]; rfl, HB.out⟩

end Go.Proofs.YthcdmnndhjbbfaaDoor.X
