/-
  The walks of Unquote, of the reference's byteAt, escape, TextAt, Unquote.
  The walk of the reference's Marks.
  The walk of the reference's Number.
  The walk of the reference's TokenAt (begun).
  The walk of the reference's TokenAt: words, numbers.
  The walk of the reference's TokenAt at a mark.
  The walk of the reference's TokenAt: a minus without a digit; all together.
  The walk of the reference's Gap.
  The walks of the reference's Prefix and Scan; a row of tokens that grows.
-/
import Derived.Test.YtfiljgkcipnghaaGreatDoorLexT
import Derived.Deep.RegionLaw
import Derived.Laws.BitsLemmas
import Derived.Test.YtfiljgkcipnghaaGreatDoorLexEnd
import Derived.Test.YtfiljgkcipnghaaGreatDoorLexM
import Derived.Deep.Cut
import Derived.Deep.CutBlock
import Derived.Deep.CutRange
import Derived.Test.YtfiljgkcipnghaaGreatDoorTokRow
set_option linter.unusedVariables false
set_option linter.unusedSimpArgs false
namespace Go.Proofs.YtfiljgkcipnghaaGreatDoor.X
open Go.RowKit
/-- The byte at a place, 0 behind the end. -/
def atB (s : ByteArray) (k : Nat) : UInt8 := if h : k < s.size then s[k] else 0
theorem atB_lt {s : ByteArray} {k : Nat} (h : k < s.size) : atB s k = s[k] := by simp [atB, h]
theorem atB_ge {s : ByteArray} {k : Nat} (h : ¬ k < s.size) : atB s k = 0 := by simp [atB, h]
def escG (e a b : UInt8) : Option (UInt8 × Nat) :=
  if e = 34 ∨ e = 92 then some (e, 2) else if e = 110 then some (10, 2) else if e = 116 then some (9, 2) else if e = 114 then some (13, 2)
  else if e = 120 then if hexB a && hexB b then some (16 * hexV a + hexV b, 4) else none else none
theorem escG_eq (s : ByteArray) (i : Nat) : escL (s.data.toList.drop (i + 1)) = escG (atB s (i + 1)) (atB s (i + 2)) (atB s (i + 3)) := by
  by_cases h1 : i + 1 < s.size
  · rw [drop_at s (i + 1) h1, atB_lt h1]
    unfold escL escG
    by_cases h2 : i + 2 < s.size
    · rw [drop_at s (i + 1 + 1) h2, atB_lt h2]
      by_cases h3 : i + 3 < s.size
      · rw [drop_at s (i + 1 + 1 + 1) h3, atB_lt h3]
      · rw [drop_end s (i + 1 + 1 + 1) (by omega), atB_ge h3]
        have : hexB 0 = false := by decide
        simp [this]
    · have h3 : ¬ i + 3 < s.size := by omega
      rw [drop_end s (i + 1 + 1) (by omega), atB_ge h2, atB_ge h3]
      have : hexB 0 = false := by decide
      simp [this]
  · have h2 : ¬ i + 2 < s.size := by omega
    have h3 : ¬ i + 3 < s.size := by omega
    rw [drop_end s (i + 1) (by omega), atB_ge h1, atB_ge h2, atB_ge h3]
    decide

set_option maxRecDepth 100000 in
theorem byteAt_any (s : ByteArray) (x : Int) (k : Nat) (hx : x = (k : Int)) (w : World) : Calls Tryz.prog 103 #[.string s, .int .i64 x] w fun e w' => e = .returned (.int .u8 ((atB s k).toNat : Int)) ∧ w = w' := by
  subst hx
  by_cases h : k < s.size
  · rw [atB_lt h]
    have h1 : ¬ ((s.size : Int) ≤ (k : Int)) := by omega
    go_enter Tryz.func103, Tryz.ntmps103
    go_wp2
    go_ret
    exact ⟨rfl, rfl⟩
  · rw [atB_ge h]
    have h1 : (s.size : Int) ≤ (k : Int) := by omega
    go_enter Tryz.func103, Tryz.ntmps103
    go_wp2
    go_ret
    exact ⟨rfl, rfl⟩

/-- What the reference's escape answers. -/
def refEscV (o : Option (UInt8 × Nat)) : Value := match o with
  | none => .tuple #[.int .u8 0, .int .i64 0]
  | some (b, n) => .tuple #[.int .u8 (b.toNat : Int), .int .i64 (n : Int)]
theorem hexI_all : ∀ n : Fin 256, hexI n.val.toUInt8 = if hexB n.val.toUInt8 then ((hexV n.val.toUInt8).toNat : Int) else -1 := by decide +kernel
theorem hexI_eq (c : UInt8) : hexI c = if hexB c then ((hexV c).toNat : Int) else -1 := by
  have := hexI_all ⟨c.toNat, c.toNat_lt⟩
  simpa using this
theorem hexI_pos (c : UInt8) (h : hexB c = true) : hexI c = ((hexV c).toNat : Int) := by rw [hexI_eq, h]; rfl
theorem hexI_neg (c : UInt8) (h : hexB c = false) : hexI c = -1 := by rw [hexI_eq, h]; rfl

set_option maxHeartbeats 4000000 in
set_option maxRecDepth 100000 in
theorem refEscape_any (s : ByteArray) (i : Nat) (w : World) (hs : s.size ≤ 1000000000000) (hi : i < s.size) :
    Calls Tryz.prog 120 #[.string s, .int .i64 i] w fun e w' => e = .returned (refEscV (escL (s.data.toList.drop (i + 1)))) ∧ w = w' := by
  rw [escG_eq]
  have B1 := Lib.hid (fun x (hx : x = ((i + 1 : Nat) : Int)) W => byteAt_any s x (i + 1) hx W)
  have B2 := Lib.hid (fun x (hx : x = ((i + 2 : Nat) : Int)) W => byteAt_any s x (i + 2) hx W)
  have B3 := Lib.hid (fun x (hx : x = ((i + 3 : Nat) : Int)) W => byteAt_any s x (i + 3) hx W)
  generalize atB s (i + 1) = e at B1 ⊢
  generalize atB s (i + 2) = a at B2 ⊢
  generalize atB s (i + 3) = b at B3 ⊢
  by_cases c34 : e = 34
  · have hE : escG e a b = some (34, 2) := by simp [escG, c34]
    rw [hE]
    have e34 : ((e.toNat : Int) == 34) = true := byte_eq e 34 c34
    clear hE c34
    go_enter Tryz.func120, Tryz.ntmps120
    go_wp2_with (go_at_call 103; (with_reducible refine (B1.out _ (by omega) _).mono ?_); rintro e w5 ⟨rfl, rfl⟩)
    go_ret2
    exact ⟨rfl, rfl⟩
  have n34 : ((e.toNat : Int) == 34) = false := byte_ne e 34 (by decide) c34
  by_cases c92 : e = 92
  · have hE : escG e a b = some (92, 2) := by simp [escG, c92]
    rw [hE]
    have e92 : ((e.toNat : Int) == 92) = true := byte_eq e 92 c92
    clear hE c34 c92
    go_enter Tryz.func120, Tryz.ntmps120
    go_wp2_with (go_at_call 103; (with_reducible refine (B1.out _ (by omega) _).mono ?_); rintro e w5 ⟨rfl, rfl⟩)
    go_ret2
    exact ⟨rfl, rfl⟩
  have n92 : ((e.toNat : Int) == 92) = false := byte_ne e 92 (by decide) c92
  by_cases c110 : e = 110
  · have hE : escG e a b = some (10, 2) := by simp [escG, c110]
    rw [hE]
    have e110 : ((e.toNat : Int) == 110) = true := byte_eq e 110 c110
    clear hE c34 c92 c110
    go_enter Tryz.func120, Tryz.ntmps120
    go_wp2_with (go_at_call 103; (with_reducible refine (B1.out _ (by omega) _).mono ?_); rintro e w5 ⟨rfl, rfl⟩)
    go_ret2
    exact ⟨rfl, rfl⟩
  have n110 : ((e.toNat : Int) == 110) = false := byte_ne e 110 (by decide) c110
  by_cases c116 : e = 116
  · have hE : escG e a b = some (9, 2) := by simp [escG, c116]
    rw [hE]
    have e116 : ((e.toNat : Int) == 116) = true := byte_eq e 116 c116
    clear hE c34 c92 c110 c116
    go_enter Tryz.func120, Tryz.ntmps120
    go_wp2_with (go_at_call 103; (with_reducible refine (B1.out _ (by omega) _).mono ?_); rintro e w5 ⟨rfl, rfl⟩)
    go_ret2
    exact ⟨rfl, rfl⟩
  have n116 : ((e.toNat : Int) == 116) = false := byte_ne e 116 (by decide) c116
  by_cases c114 : e = 114
  · have hE : escG e a b = some (13, 2) := by simp [escG, c114]
    rw [hE]
    have e114 : ((e.toNat : Int) == 114) = true := byte_eq e 114 c114
    clear hE c34 c92 c110 c116 c114
    go_enter Tryz.func120, Tryz.ntmps120
    go_wp2_with (go_at_call 103; (with_reducible refine (B1.out _ (by omega) _).mono ?_); rintro e w5 ⟨rfl, rfl⟩)
    go_ret2
    exact ⟨rfl, rfl⟩
  have n114 : ((e.toNat : Int) == 114) = false := byte_ne e 114 (by decide) c114
  by_cases c120 : e = 120
  · have e120 : ((e.toNat : Int) == 120) = true := byte_eq e 120 c120
    have HA := Lib.hid (fun W => refHex_any a W)
    have HB := Lib.hid (fun W => refHex_any b W)
    cases ha : hexB a with
    | false =>
      have hE : escG e a b = none := by simp [escG, c120, ha]
      rw [hE]
      rw [hexI_neg a ha] at HA
      clear hE c34 c92 c110 c116 c114 c120 ha
      generalize hexI b = y at HB
      go_enter Tryz.func120, Tryz.ntmps120
      go_wp2_with (first | (go_at_call 103; (with_reducible refine (B1.out _ (by omega) _).mono ?_); rintro e w5 ⟨rfl, rfl⟩) | (go_at_call 103; (with_reducible refine (B2.out _ (by omega) _).mono ?_); rintro e w5 ⟨rfl, rfl⟩) | (go_at_call 103; (with_reducible refine (B3.out _ (by omega) _).mono ?_); rintro e w5 ⟨rfl, rfl⟩) | (go_at_call 132; (with_reducible refine (HA.out _).mono ?_); rintro e w5 ⟨rfl, rfl⟩) | (go_at_call 132; (with_reducible refine (HB.out _).mono ?_); rintro e w5 ⟨rfl, rfl⟩))
      go_ret2
      exact ⟨rfl, rfl⟩
    | true =>
      have hA0 := hexI_pos a ha
      have hr1 := hexV_lt a ha
      cases hb : hexB b with
      | false =>
        have hE : escG e a b = none := by simp [escG, c120, ha, hb]
        rw [hE]
        rw [hexI_neg b hb] at HB
        rw [hA0] at HA
        have hx0 : (0 : Int) ≤ ((hexV a).toNat : Int) := by omega
        clear hE c34 c92 c110 c116 c114 c120 ha hb hA0 hr1
        go_enter Tryz.func120, Tryz.ntmps120
        go_wp2_with (first | (go_at_call 103; (with_reducible refine (B1.out _ (by omega) _).mono ?_); rintro e w5 ⟨rfl, rfl⟩) | (go_at_call 103; (with_reducible refine (B2.out _ (by omega) _).mono ?_); rintro e w5 ⟨rfl, rfl⟩) | (go_at_call 103; (with_reducible refine (B3.out _ (by omega) _).mono ?_); rintro e w5 ⟨rfl, rfl⟩) | (go_at_call 132; (with_reducible refine (HA.out _).mono ?_); rintro e w5 ⟨rfl, rfl⟩) | (go_at_call 132; (with_reducible refine (HB.out _).mono ?_); rintro e w5 ⟨rfl, rfl⟩))
        go_ret2
        exact ⟨rfl, rfl⟩
      | true =>
        have hB0 := hexI_pos b hb
        have hr2 := hexV_lt b hb
        have hs1 := hex_sum a b ha hb
        have hE : escG e a b = some (16 * hexV a + hexV b, 4) := by simp [escG, c120, ha, hb]
        rw [hE]
        simp only [refEscV]
        rw [hs1]
        rw [hA0] at HA
        rw [hB0] at HB
        obtain ⟨x, hx⟩ : ∃ x : Int, x = ((hexV a).toNat : Int) := ⟨_, rfl⟩
        obtain ⟨y, hy⟩ : ∃ y : Int, y = ((hexV b).toNat : Int) := ⟨_, rfl⟩
        rw [← hx] at HA ⊢
        rw [← hy] at HB ⊢
        have hx0 : 0 ≤ x := by omega
        have hx1 : x ≤ 15 := by omega
        have hy0 : 0 ≤ y := by omega
        have hy1 : y ≤ 15 := by omega
        have hw : IntKind.u8.wrap (16 * x + y) = x * 16 + y := by rw [IntWalk.u8_in _ (by omega)]; omega
        clear hE c34 c92 c110 c116 c114 c120 ha hb hA0 hr1 hB0 hr2 hs1 hx hy
        go_enter Tryz.func120, Tryz.ntmps120
        go_wp2_with (first | (go_at_call 103; (with_reducible refine (B1.out _ (by omega) _).mono ?_); rintro e w5 ⟨rfl, rfl⟩) | (go_at_call 103; (with_reducible refine (B2.out _ (by omega) _).mono ?_); rintro e w5 ⟨rfl, rfl⟩) | (go_at_call 103; (with_reducible refine (B3.out _ (by omega) _).mono ?_); rintro e w5 ⟨rfl, rfl⟩) | (go_at_call 132; (with_reducible refine (HA.out _).mono ?_); rintro e w5 ⟨rfl, rfl⟩) | (go_at_call 132; (with_reducible refine (HB.out _).mono ?_); rintro e w5 ⟨rfl, rfl⟩))
        go_ret2
        exact ⟨rfl, rfl⟩
  · have hE : escG e a b = none := by simp [escG, c34, c92, c110, c116, c114, c120]
    rw [hE]
    have n120 : ((e.toNat : Int) == 120) = false := byte_ne e 120 (by decide) c120
    clear hE c34 c92 c110 c116 c114 c120
    go_enter Tryz.func120, Tryz.ntmps120
    go_wp2_with (go_at_call 103; (with_reducible refine (B1.out _ (by omega) _).mono ?_); rintro e w5 ⟨rfl, rfl⟩)
    go_ret2
    exact ⟨rfl, rfl⟩

theorem results_tmp4 {fn : Func} {t u v x : Tmp} (h : fn.results = #[.tmp t, .tmp u, .tmp v, .tmp x]) (tmps : Array Value) (P : Program) (w : World) :
    (results fn tmps).run P w = .ok (.tuple #[tmps.getD t undef, tmps.getD u undef, tmps.getD v undef, tmps.getD x undef]) w := by simp [results, h]
theorem own_none (w : World) : (w.alloc (.cells #[] 5)).ownsRow w.heap.size 5 1 (.slice (some ⟨w.heap.size, 0, none⟩) 0 0) ([] : Bs).length (Lib.byteCells []) := by
  have h := World.ownsRow_lit (base := w.heap.size) (e := 5) (size := 1) w #[] 0 (Nat.le_refl _) (by simp [maxLen]) (by simp)
  simpa [Lib.byteCells] using h
/-- What the reference's TextAt answers, of what the bytes come to. -/
def textV (i : Nat) : StrR → Value
  | .open_ => .tuple #[.string ⟨#[]⟩, .int .i64 0, .int .i64 112, .int .i64 i]
  | .byte p => .tuple #[.string ⟨#[]⟩, .int .i64 0, .int .i64 111, .int .i64 p]
  | .esc p => .tuple #[.string ⟨#[]⟩, .int .i64 0, .int .i64 113, .int .i64 p]
  | .done b e => if 127 < b.length then .tuple #[.string ⟨#[]⟩, .int .i64 0, .int .i64 115, .int .i64 i] else .tuple #[.string ⟨b.toArray⟩, .int .i64 (e : Nat), .int .i64 0, .int .i64 0]

set_option maxHeartbeats 8000000 in
set_option maxRecDepth 100000 in
theorem refText_any (s : ByteArray) (i : Nat) (w : World) (hs : s.size ≤ 1000000000000) (hi : i < s.size) :
    Calls Tryz.prog 101 #[.string s, .int .i64 i] w fun e w' => e = .returned (textV i (strL (s.data.toList.drop (i + 1)) (i + 1) [])) ∧ Below w.heap.size w w' := by
  obtain ⟨R, hR⟩ : ∃ R, R = strL (s.data.toList.drop (i + 1)) (i + 1) [] := ⟨_, rfl⟩
  rw [← hR]
  have HR := Lib.hid hR
  clear hR
  go_enter Tryz.func101, Tryz.ntmps101
  go_wp2
  go_loopw [8, 9] (fun v j wr => ∃ (k : Nat) (acc : Bs), i + 1 ≤ k ∧ k ≤ s.size ∧ acc.length ≤ k ∧ j = .int .i64 k ∧ Hid (R = strL (s.data.toList.drop k) k acc) ∧ Hid (wr.ownsRow w.heap.size 5 1 v acc.length (Lib.byteCells acc)) ∧ Hid (Below w.heap.size w wr)) (fun _ j _ => s.size - (intOf j).toNat)
  case atStart => exact ⟨i + 1, [], Nat.le_refl _, by omega, by simp, by go_num, HR, Lib.hid (own_none w), Lib.hid ((Below.refl _ _).alloc (Nat.le_refl _) _)⟩
  case round =>
    obtain ⟨k, acc, hik, hk, ha, rfl, HK, HO, HB⟩ := hrel
    clear HR
    have hbs := HB.out.size
    by_cases hlt : k < s.size
    · have HD := Lib.hid (drop_at s k hlt)
      have hge : (0 : Int) ≤ (s[k].toNat : Int) := by omega
      by_cases c34 : s[k] = 34
      · have HE : Hid (R = .done acc (k + 1)) := Lib.hid (by rw [HK.out, HD.out, c34, strL_end])
        have e34 : ((s[k].toNat : Int) == 34) = true := byte_eq s[k] 34 c34
        clear c34
        obtain ⟨Av, cv, rfl⟩ := own_slice HO.out
        by_cases h127 : 127 < acc.length
        · have hI : (127 : Int) < (acc.length : Int) := by omega
          have HE : Hid (textV i R = .tuple #[.string ⟨#[]⟩, .int .i64 0, .int .i64 115, .int .i64 i]) := Lib.hid (by rw [HE.out]; simp [textV, h127])
          clear h127
          go_wp2
          (try simp only [Exit.inBlock, Exit.then]); refine bodyPost_ret (results_tmp4 rfl _ _ _) rfl ?_
          exact ⟨by rw [HE.out]; rfl, HB.out⟩
        · have hI : ¬ ((127 : Int) < (acc.length : Int)) := by omega
          have HE : Hid (textV i R = .tuple #[.string ⟨acc.toArray⟩, .int .i64 ((k + 1 : Nat) : Int), .int .i64 0, .int .i64 0]) := Lib.hid (by rw [HE.out]; simp [textV, h127])
          have hcv := conv_bytes HO.out
          clear h127
          go_wp2
          (try simp only [Exit.inBlock, Exit.then]); refine bodyPost_ret (results_tmp4 rfl _ _ _) rfl ?_
          exact ⟨by rw [HE.out]; rfl, HB.out⟩
      · have n34 : ((s[k].toNat : Int) == 34) = false := byte_ne s[k] 34 (by decide) c34
        by_cases c32 : s[k] < 32
        · have HE : Hid (R = .byte k) := Lib.hid (by rw [HK.out, HD.out, strL_low _ _ _ _ c34 c32])
          have hI : (s[k].toNat : Int) < 32 := by rw [UInt8.lt_iff_toNat_lt] at c32; simp at c32; omega
          clear c34 c32
          go_wp2
          (try simp only [Exit.inBlock, Exit.then]); refine bodyPost_ret (results_tmp4 rfl _ _ _) rfl ?_
          exact ⟨by rw [HE.out]; rfl, HB.out⟩
        · have hI : ¬ ((s[k].toNat : Int) < 32) := by rw [UInt8.lt_iff_toNat_lt] at c32; simp at c32; omega
          by_cases c92 : s[k] = 92
          · have HK2 : Hid (R = escK (s.data.toList.drop k) k acc (escL (s.data.toList.drop (k + 1)))) := Lib.hid (by rw [HK.out, HD.out, c92, strL_esc])
            have e92 : ((s[k].toNat : Int) == 92) = true := byte_eq s[k] 92 c92
            have EC := Lib.hid (fun W => refEscape_any s k W hs hlt)
            clear c34 c32 c92
            cases hes : escL (s.data.toList.drop (k + 1)) with
            | none =>
              rw [hes] at EC HK2
              have HE : Hid (R = .esc k) := Lib.hid HK2.out
              simp only [refEscV] at EC
              clear hes
              go_wp2_with (go_at_call 120; refine (EC.out _).mono ?_; rintro e w3 ⟨rfl, rfl⟩)
              (try simp only [Exit.inBlock, Exit.then]); refine bodyPost_ret (results_tmp4 rfl _ _ _) rfl ?_
              exact ⟨by rw [HE.out]; rfl, HB.out⟩
            | some x =>
              obtain ⟨b, n⟩ := x
              have hle := escL_len hes
              have hdl : (s.data.toList.drop (k + 1)).length = s.size - (k + 1) := by simp
              rw [hes] at EC HK2
              have HE : Hid (R = strL (s.data.toList.drop (k + n)) (k + n) (acc ++ [b])) := Lib.hid (by rw [HK2.out]; simp only [escK, List.drop_drop])
              obtain ⟨hn2, hn3, hn4⟩ := hle
              rw [hdl] at hn3
              have hz : ((n : Int) == 0) = false := by simp; omega
              clear hes hdl HK2
              simp only [refEscV] at EC
              go_wp2_with (first | (go_at_call 120; refine (EC.out _).mono ?_; rintro e w3 ⟨rfl, rfl⟩) | (at_builtin; go_loud (refine app_bytes w.heap.size rfl (.tmp 47) (.tmp 49) rfl _ acc [b] _ 1 rfl rfl rfl rfl HO.out HB.out (by omega) (by omega) ?_; intro v1 w4 hown hb4 _)))
              go_roundw
              case rel => exact ⟨k + n, acc ++ [b], by omega, by omega, by simp; omega, by go_num, HE, Lib.hid hown, Lib.hid hb4⟩
              case measure => simp [intOf]; omega
          · have HE : Hid (R = strL (s.data.toList.drop (k + 1)) (k + 1) (acc ++ [s[k]])) := Lib.hid (by rw [HK.out, HD.out, strL_char _ _ _ _ c34 c32 c92])
            have n92 : ((s[k].toNat : Int) == 92) = false := byte_ne s[k] 92 (by decide) c92
            clear c34 c32 c92
            go_wp2_with (at_builtin; go_loud (refine app_bytes w.heap.size rfl (.tmp 54) (.tmp 56) rfl _ acc [s[k]] _ 1 rfl rfl rfl rfl HO.out HB.out (by omega) (by omega) ?_; intro v1 w4 hown hb4 _))
            go_roundw
            case rel => exact ⟨k + 1, acc ++ [s[k]], by omega, by omega, by simp; omega, by go_num, HE, Lib.hid hown, Lib.hid hb4⟩
            case measure => simp [intOf]; omega
    · have hI : ¬ ((k : Int) < (s.size : Int)) := by omega
      have HE : Hid (R = .open_) := Lib.hid (by rw [HK.out, drop_end s k (by omega)]; rfl)
      go_wp2
      (try simp only [Exit.inBlock, Exit.then]); refine bodyPost_ret (results_tmp4 rfl _ _ _) rfl ?_
      exact ⟨by rw [HE.out]; rfl, HB.out⟩

end Go.Proofs.YtfiljgkcipnghaaGreatDoor.X
set_option linter.unusedVariables false
set_option linter.unusedSimpArgs false
namespace Go.Proofs.YtfiljgkcipnghaaGreatDoor.X
open Go.RowKit
set_option maxHeartbeats 8000000 in
set_option maxRecDepth 100000 in
theorem refMarks_any (k : Nat) (hk : k ≤ 17) (w : World) :
    Calls Tryz.prog 106 #[.int .i64 k] w fun e w' => e = .returned (.string ⟨(marksL.getD k []).toArray⟩) ∧ w = w' := by
  have h : k = 0 ∨ k = 1 ∨ k = 2 ∨ k = 3 ∨ k = 4 ∨ k = 5 ∨ k = 6 ∨ k = 7 ∨ k = 8 ∨ k = 9 ∨ k = 10 ∨ k = 11 ∨ k = 12 ∨ k = 13 ∨ k = 14 ∨ k = 15 ∨ k = 16 ∨ k = 17 := by omega
  rcases h with rfl | rfl | rfl | rfl | rfl | rfl | rfl | rfl | rfl | rfl | rfl | rfl | rfl | rfl | rfl | rfl | rfl | rfl
  all_goals
    go_enter Tryz.func106, Tryz.ntmps106
    go_wp2
    go_ret
    first | exact ⟨rfl, rfl⟩ | exact ⟨by kernel_rfl, rfl⟩ | (refine ⟨?_, rfl⟩; simp [marksL]; rfl)

end Go.Proofs.YtfiljgkcipnghaaGreatDoor.X
set_option linter.unusedVariables false
set_option linter.unusedSimpArgs false
namespace Go.Proofs.YtfiljgkcipnghaaGreatDoor.X
open Go.RowKit
def numV : Option Int → Value
  | some n => .tuple #[.int .i64 n, .bool true]
  | none => .tuple #[.int .i64 0, .bool false]
theorem take_at (D : ByteArray) (k : Nat) (h : k < D.size) : D.data.toList.take (k + 1) = D.data.toList.take k ++ [D[k]] := by
  rw [List.take_succ_eq_append_getElem (by simpa using h)]; rfl
theorem take_small (D : ByteArray) (k : Nat) (h : digsB (D.data.toList.take k) = true) (hk : k ≤ 18) : valN 0 (D.data.toList.take k) < 1000000000000000000 :=
  val18 _ h (by rw [List.length_take]; omega)
theorem take_17 (D : ByteArray) (k : Nat) (h : digsB (D.data.toList.take k) = true) (hk : k ≤ 17) : valN 0 (D.data.toList.take k) < 100000000000000000 := by
  have h1 := valN_small _ 0 h
  have h2 : 10 ^ (D.data.toList.take k).length ≤ 10 ^ 17 := Nat.pow_le_pow_right (by omega) (by rw [List.length_take]; omega)
  rw [show 0 + 1 = 1 from rfl, Nat.one_mul] at h1
  have h3 : (10 : Nat) ^ 17 = 100000000000000000 := by decide
  omega
theorem digs_not (D : ByteArray) (k : Nat) (h : k < D.size) (hd : digB D[k] = false) : digsB D.data.toList = false := by
  cases hx : digsB D.data.toList with
  | false => rfl
  | true =>
    simp only [digsB, List.all_eq_true] at hx
    have h2 : D[k] ∈ D.data.toList := by
      have := List.getElem_mem (l := D.data.toList) (n := k) (by simpa using h)
      exact this
    rw [hx _ h2] at hd; cases hd

set_option maxHeartbeats 8000000 in
set_option maxRecDepth 100000 in
theorem refNum_minus (s : ByteArray) (w : World) (hs : s.size ≤ 1000000000000) (h0 : 0 < s.size) (c45 : s[0] = 45) :
    Calls Tryz.prog 105 #[.string s] w fun e w' => e = .returned (numV (refBody s.data.toList (s.extract 1 s.size).data.toList)) ∧ w = w' := by
  have hI0 : (0 : Int) < (s.size : Int) := by omega
  have hm : (s.extract 1 s.size).size = s.size - 1 := by simp
  have hdl : (s.extract 1 s.size).data.toList.length = (s.extract 1 s.size).size := by rw [Array.length_toList]; rfl
  have hsl : s.data.toList.length = s.size := by rw [Array.length_toList]; rfl
  have e45 : ((s[0].toNat : Int) == 45) = true := byte_eq s[0] 45 c45
  obtain ⟨R, hR⟩ : ∃ R, R = refBody s.data.toList (s.extract 1 s.size).data.toList := ⟨_, rfl⟩
  rw [← hR]
  by_cases c1 : s.size - 1 < 1
  · have HR : Hid (R = none) := Lib.hid (by rw [hR]; unfold refBody; rw [if_pos (by omega)])
    have hI1 : ((s.size - 1 : Nat) : Int) < 1 := by omega
    clear hR hm hdl hsl
    go_enter Tryz.func105, Tryz.ntmps105
    go_wp2
    go_ret2
    exact ⟨by rw [HR.out]; rfl, rfl⟩
  by_cases c2 : 18 < s.size - 1
  · have HR : Hid (R = none) := Lib.hid (by rw [hR]; unfold refBody; rw [if_pos (by omega)])
    have hI1 : ¬ (((s.size - 1 : Nat) : Int) < 1) := by omega
    have hI2 : (18 : Int) < ((s.size - 1 : Nat) : Int) := by omega
    clear hR hm hdl hsl
    go_enter Tryz.func105, Tryz.ntmps105
    go_wp2
    go_ret2
    exact ⟨by rw [HR.out]; rfl, rfl⟩
  have hI1 : ¬ (((s.size - 1 : Nat) : Int) < 1) := by omega
  have hI2 : ¬ ((18 : Int) < ((s.size - 1 : Nat) : Int)) := by omega
  have HR := Lib.hid hR
  have HM := Lib.hid hm
  clear hR hm hdl hsl
  go_enter Tryz.func105, Tryz.ntmps105
  go_wp2
  go_loopw [5, 6] (fun nv iv wr => ∃ k : Nat, k ≤ s.size - 1 ∧ iv = .int .i64 k ∧ nv = .int .i64 (valN 0 ((s.extract 1 s.size).data.toList.take k) : Nat) ∧ Hid (digsB ((s.extract 1 s.size).data.toList.take k) = true) ∧ w = wr) (fun _ iv _ => s.size - 1 - (intOf iv).toNat)
  case atStart => exact ⟨0, Nat.zero_le _, rfl, rfl, Lib.hid rfl, rfl⟩
  case round =>
    obtain ⟨k, hk, rfl, rfl, HG, rfl⟩ := hrel
    by_cases hlt : k < s.size - 1
    · have hI3 : (k : Int) < ((s.size - 1 : Nat) : Int) := by omega
      have hlt2 : k < (s.extract 1 s.size).size := by rw [HM.out]; exact hlt
      have DC := Lib.hid (fun W => refDigit_any (s.extract 1 s.size)[k] W)
      cases hd : digB (s.extract 1 s.size)[k] with
      | true =>
        have hn := dig_nat hd
        have hv := take_17 (s.extract 1 s.size) k HG.out (by omega)
        have hc1 : (48 : Int) ≤ ((s.extract 1 s.size)[k].toNat : Int) := by omega
        have hc2 : ((s.extract 1 s.size)[k].toNat : Int) ≤ 57 := by omega
        have HG2 : Hid (digsB ((s.extract 1 s.size).data.toList.take (k + 1)) = true) := Lib.hid (by rw [take_at _ _ hlt2]; simp only [digsB, List.all_append, Bool.and_eq_true]; exact ⟨HG.out, by simpa using hd⟩)
        have HV : Hid ((valN 0 ((s.extract 1 s.size).data.toList.take (k + 1)) : Int) = 10 * (valN 0 ((s.extract 1 s.size).data.toList.take k) : Int) + (((s.extract 1 s.size)[k].toNat : Int) - 48)) := Lib.hid (by rw [take_at _ _ hlt2, valN_append, stepN_eq]; omega)
        rw [hd] at DC
        clear hd hn
        generalize valN 0 ((s.extract 1 s.size).data.toList.take k) = n at hv HV ⊢
        go_wp2_with (go_at_call 102; refine (DC.out _).mono ?_; rintro e w3 ⟨rfl, rfl⟩)
        go_roundw
        case rel => exact ⟨k + 1, by omega, by go_num, by rw [HV.out], HG2, trivial⟩
        case measure => simp [intOf]; omega
      | false =>
        have HE : Hid (R = none) := Lib.hid (by rw [HR.out]; unfold refBody; rw [digs_not _ _ hlt2 hd]; simp)
        rw [hd] at DC
        clear hd
        go_wp2_with (go_at_call 102; refine (DC.out _).mono ?_; rintro e w3 ⟨rfl, rfl⟩)
        go_ret2
        exact ⟨by rw [HE.out]; rfl, rfl⟩
    · have hI3 : ¬ ((k : Int) < ((s.size - 1 : Nat) : Int)) := by omega
      have hke : k = (s.extract 1 s.size).size := by rw [HM.out]; omega
      have htk : (s.extract 1 s.size).data.toList.take k = (s.extract 1 s.size).data.toList := by rw [hke]; exact List.take_of_length_le (by rw [Array.length_toList]; exact Nat.le_refl _)
      have hG := HG.out
      rw [htk] at hG
      have hv := take_small (s.extract 1 s.size) k HG.out (by omega)
      rw [htk] at hv ⊢
      have hd0 : 0 < (s.extract 1 s.size).size := by rw [HM.out]; omega
      have hdl : (s.extract 1 s.size).data.toList.length = s.size - 1 := by rw [Array.length_toList]; exact HM.out
      have hsl : s.data.toList.length = s.size := by rw [Array.length_toList]; rfl
      have hhead : (s.extract 1 s.size).data.toList.head? = some (s.extract 1 s.size)[0] := by
        have h := drop_at (s.extract 1 s.size) 0 hd0
        rw [List.drop_zero] at h
        rw [h]; rfl
      have hrun : s.data.toList ≠ [48] := by
        intro e
        have h := drop_at s 0 h0
        rw [List.drop_zero, e, c45] at h
        simp at h
      have hne : (s.toList == [48]) = false := by rw [ByteArray.toList_eq]; simpa using hrun
      by_cases c0 : (s.extract 1 s.size)[0] = 48
      · have HE : Hid (R = none) := Lib.hid (by rw [HR.out]; unfold refBody; rw [if_neg (by omega), if_neg (by rw [hG]; simp), if_pos ⟨by rw [hhead, c0], hrun⟩])
        have e48 : (((s.extract 1 s.size)[0].toNat : Int) == 48) = true := byte_eq _ 48 c0
        generalize valN 0 (s.extract 1 s.size).data.toList = n at hv ⊢
        clear hhead hrun hdl hsl hG htk c0 hke HG
        go_wp2
        go_ret2
        exact ⟨by rw [HE.out]; rfl, rfl⟩
      · have HE : Hid (R = some (-(valN 0 (s.extract 1 s.size).data.toList : Int))) := Lib.hid (by rw [HR.out]; unfold refBody; rw [if_neg (by omega), if_neg (by rw [hG]; simp), if_neg (fun h => c0 (by have h1 := h.1; rw [hhead] at h1; exact Option.some.inj h1)), if_pos (by omega)])
        have n48 : (((s.extract 1 s.size)[0].toNat : Int) == 48) = false := byte_ne _ 48 (by decide) c0
        have hls : ((s.size - 1 : Nat) : Int) < (s.size : Int) := by omega
        generalize valN 0 (s.extract 1 s.size).data.toList = n at hv HE ⊢
        clear hhead hrun hdl hsl hG htk c0 hke HG
        go_wp2
        go_ret2
        exact ⟨by rw [HE.out]; rfl, rfl⟩

set_option maxHeartbeats 8000000 in
set_option maxRecDepth 100000 in
theorem refNum_plain (s : ByteArray) (w : World) (hs : s.size ≤ 1000000000000) (h0 : 0 < s.size) (c45 : ¬ s[0] = 45) :
    Calls Tryz.prog 105 #[.string s] w fun e w' => e = .returned (numV (refBody s.data.toList s.data.toList)) ∧ w = w' := by
  have hI0 : (0 : Int) < (s.size : Int) := by omega
  have hm : s.size = s.size := rfl
  have hdl : s.data.toList.length = s.size := by rw [Array.length_toList]; rfl
  have hsl : s.data.toList.length = s.size := by rw [Array.length_toList]; rfl
  have e45 : ((s[0].toNat : Int) == 45) = false := byte_ne s[0] 45 (by decide) c45
  obtain ⟨R, hR⟩ : ∃ R, R = refBody s.data.toList s.data.toList := ⟨_, rfl⟩
  rw [← hR]
  by_cases c1 : s.size < 1
  · have HR : Hid (R = none) := Lib.hid (by rw [hR]; unfold refBody; rw [if_pos (by omega)])
    have hI1 : (s.size : Int) < 1 := by omega
    clear hR hm hdl hsl
    go_enter Tryz.func105, Tryz.ntmps105
    go_wp2
    go_ret2
    exact ⟨by rw [HR.out]; rfl, rfl⟩
  by_cases c2 : 18 < s.size
  · have HR : Hid (R = none) := Lib.hid (by rw [hR]; unfold refBody; rw [if_pos (by omega)])
    have hI1 : ¬ ((s.size : Int) < 1) := by omega
    have hI2 : (18 : Int) < (s.size : Int) := by omega
    clear hR hm hdl hsl
    go_enter Tryz.func105, Tryz.ntmps105
    go_wp2
    go_ret2
    exact ⟨by rw [HR.out]; rfl, rfl⟩
  have hI1 : ¬ ((s.size : Int) < 1) := by omega
  have hI2 : ¬ ((18 : Int) < (s.size : Int)) := by omega
  have HR := Lib.hid hR
  have HM := Lib.hid hm
  clear hR hm hdl hsl
  go_enter Tryz.func105, Tryz.ntmps105
  go_wp2
  go_loopw [5, 6] (fun nv iv wr => ∃ k : Nat, k ≤ s.size ∧ iv = .int .i64 k ∧ nv = .int .i64 (valN 0 (s.data.toList.take k) : Nat) ∧ Hid (digsB (s.data.toList.take k) = true) ∧ w = wr) (fun _ iv _ => s.size - (intOf iv).toNat)
  case atStart => exact ⟨0, Nat.zero_le _, rfl, rfl, Lib.hid rfl, rfl⟩
  case round =>
    obtain ⟨k, hk, rfl, rfl, HG, rfl⟩ := hrel
    by_cases hlt : k < s.size
    · have hI3 : (k : Int) < (s.size : Int) := by omega
      have hlt2 : k < s.size := by exact hlt
      have DC := Lib.hid (fun W => refDigit_any s[k] W)
      cases hd : digB s[k] with
      | true =>
        have hn := dig_nat hd
        have hv := take_17 s k HG.out (by omega)
        have hc1 : (48 : Int) ≤ (s[k].toNat : Int) := by omega
        have hc2 : (s[k].toNat : Int) ≤ 57 := by omega
        have HG2 : Hid (digsB (s.data.toList.take (k + 1)) = true) := Lib.hid (by rw [take_at _ _ hlt2]; simp only [digsB, List.all_append, Bool.and_eq_true]; exact ⟨HG.out, by simpa using hd⟩)
        have HV : Hid ((valN 0 (s.data.toList.take (k + 1)) : Int) = 10 * (valN 0 (s.data.toList.take k) : Int) + ((s[k].toNat : Int) - 48)) := Lib.hid (by rw [take_at _ _ hlt2, valN_append, stepN_eq]; omega)
        rw [hd] at DC
        clear hd hn
        generalize valN 0 (s.data.toList.take k) = n at hv HV ⊢
        go_wp2_with (go_at_call 102; refine (DC.out _).mono ?_; rintro e w3 ⟨rfl, rfl⟩)
        go_roundw
        case rel => exact ⟨k + 1, by omega, by go_num, by rw [HV.out], HG2, trivial⟩
        case measure => simp [intOf]; omega
      | false =>
        have HE : Hid (R = none) := Lib.hid (by rw [HR.out]; unfold refBody; rw [digs_not _ _ hlt2 hd]; simp)
        rw [hd] at DC
        clear hd
        go_wp2_with (go_at_call 102; refine (DC.out _).mono ?_; rintro e w3 ⟨rfl, rfl⟩)
        go_ret2
        exact ⟨by rw [HE.out]; rfl, rfl⟩
    · have hI3 : ¬ ((k : Int) < (s.size : Int)) := by omega
      have hke : k = s.size := by omega
      have htk : s.data.toList.take k = s.data.toList := by rw [hke]; exact List.take_of_length_le (by rw [Array.length_toList]; exact Nat.le_refl _)
      have hG := HG.out
      rw [htk] at hG
      have hv := take_small s k HG.out (by omega)
      rw [htk] at hv ⊢
      have hd0 : 0 < s.size := by omega
      have hdl : s.data.toList.length = s.size := by rw [Array.length_toList]; rfl
      have hsl : s.data.toList.length = s.size := by rw [Array.length_toList]; rfl
      have hhead : s.data.toList.head? = some s[0] := by
        have h := drop_at s 0 hd0
        rw [List.drop_zero] at h
        rw [h]; rfl
      have fin : ∀ (hne : Hid (R = some (valN 0 s.data.toList : Int))), R = some (valN 0 s.data.toList : Int) := fun h => h.out
      have hls : ¬ ((s.size : Int) < (s.size : Int)) := by omega
      by_cases c0 : s[0] = 48
      · have e48 : ((s[0].toNat : Int) == 48) = true := byte_eq _ 48 c0
        by_cases hrun : s.data.toList = [48]
        · have hne : (s.toList == [48]) = true := by rw [ByteArray.toList_eq, hrun]; rfl
          have HE : Hid (R = some (valN 0 s.data.toList : Int)) := Lib.hid (by rw [HR.out]; unfold refBody; rw [if_neg (by omega), if_neg (by rw [hG]; simp), if_neg (fun h => h.2 hrun), if_neg (by omega)])
          generalize valN 0 s.data.toList = n at hv HE ⊢
          clear hhead hrun hdl hsl hG htk c0 hke HG fin
          go_wp2
          go_ret2
          exact ⟨by rw [HE.out]; rfl, rfl⟩
        · have hne : (s.toList == [48]) = false := by rw [ByteArray.toList_eq]; simpa using hrun
          have HE : Hid (R = none) := Lib.hid (by rw [HR.out]; unfold refBody; rw [if_neg (by omega), if_neg (by rw [hG]; simp), if_pos ⟨by rw [hhead, c0], hrun⟩])
          generalize valN 0 s.data.toList = n at hv fin ⊢
          clear hhead hrun hdl hsl hG htk c0 hke HG fin
          go_wp2
          go_ret2
          exact ⟨by rw [HE.out]; rfl, rfl⟩
      · have HE : Hid (R = some (valN 0 s.data.toList : Int)) := Lib.hid (by rw [HR.out]; unfold refBody; rw [if_neg (by omega), if_neg (by rw [hG]; simp), if_neg (fun h => c0 (by have h1 := h.1; rw [hhead] at h1; exact Option.some.inj h1)), if_neg (by omega)])
        have n48 : ((s[0].toNat : Int) == 48) = false := byte_ne _ 48 (by decide) c0
        generalize valN 0 s.data.toList = n at hv HE fin ⊢
        clear hhead hdl hsl hG htk c0 hke HG fin
        go_wp2
        go_ret2
        exact ⟨by rw [HE.out]; rfl, rfl⟩

theorem tail_bytes (s : ByteArray) : (s.extract 1 s.size).data.toList = s.data.toList.tail := by
  simp only [ByteArray.data_extract, Array.toList_extract, List.extract_eq_take_drop]
  rw [List.take_of_length_le (by simp), List.drop_one]
set_option maxRecDepth 100000 in
theorem refNumber_any (s : ByteArray) (w : World) (hs : s.size ≤ 1000000000000) :
    Calls Tryz.prog 105 #[.string s] w fun e w' => e = .returned (numV (refNum s.data.toList)) ∧ w = w' := by
  by_cases h0 : 0 < s.size
  · have hD := drop_at s 0 h0
    rw [List.drop_zero] at hD
    have hh : s.data.toList.head? = some s[0] := by rw [hD]; rfl
    by_cases c45 : s[0] = 45
    · have h := refNum_minus s w hs h0 c45
      rw [tail_bytes] at h
      unfold refNum
      rw [if_pos (by rw [hh, c45])]
      exact h
    · unfold refNum
      rw [if_neg (by rw [hh]; simpa using c45)]
      exact refNum_plain s w hs h0 c45
  · obtain rfl : s = ⟨#[]⟩ := by apply ByteArray.ext; exact Array.eq_empty_of_size_eq_zero (show s.size = 0 by omega)
    have hR : refNum (⟨#[]⟩ : ByteArray).data.toList = none := rfl
    rw [hR]
    go_enter Tryz.func105, Tryz.ntmps105
    go_wp2
    go_ret2
    exact ⟨rfl, rfl⟩

end Go.Proofs.YtfiljgkcipnghaaGreatDoor.X
set_option linter.unusedVariables false
set_option linter.unusedSimpArgs false
namespace Go.Proofs.YtfiljgkcipnghaaGreatDoor.X
open Go.RowKit
theorem results_ctt {P : Program} {fn : Func} {p u v : Tmp} {ty : TypeId} (h : fn.results = #[.cell p ty, .tmp u, .tmp v]) (tmps : Array Value) (w : World) (g : Nat) (t : TypeId) (cs : Array Value) (fr : Nat × Nat) (d : TypeDesc) (uv vv : Value) (huv : tmps.getD u undef = uv) (hvv : tmps.getD v undef = vv)
    (hp : tmps.getD p undef = .pointer (some ⟨g, 0, none⟩)) (hg : w.heap[g]? = some (.cells cs t fr))
    (hu : P.underlying ty = some d) (hd : (match d with | .struct _ | .array _ _ => true | _ => false) = true) (hi : (P.info? ty).map (·.size) = some cs.size) :
    (results fn tmps).run P w = .ok (.tuple #[.agg cs, uv, vv]) w := by
  subst huv
  subst hvv
  have hp' : tmps[p]?.getD undef = .pointer (some ⟨g, 0, none⟩) := by simpa using hp
  simp [results, h, hp', asAddr, run_loadVar_row w g t ty cs fr d hg hu hd hi]
/-- What TokenAt answers. -/
def refAns (w : World) (r : Res) (e : Ending) (w' : World) : Prop := Below w.heap.size w w' ∧ match r with
  | .ok t => e = .returned (.tuple #[tokV t, .int .i64 0, .int .i64 0])
  | .error (c, a) => e = .returned (.tuple #[.agg zeroCells, .int .i64 c, .int .i64 (a : Nat)])
theorem refTok_end (s : ByteArray) (w : World) (hs : s.size ≤ 1000000000000) :
    Calls Tryz.prog 75 #[.string s, .int .i64 s.size] w (refAns w (.ok ⟨0, [], 0, s.size, s.size⟩)) := by
  go_enter Tryz.func75, Tryz.ntmps75
  go_wp2
  refine bodyPost_ret (results_ctt rfl _ _ w.heap.size 73 #[.int .i64 0, .string ⟨#[]⟩, .int .i64 0, .int .i64 s.size, .int .i64 s.size] (0, 0) _ (.int .i64 0) (.int .i64 0) rfl rfl rfl (Go.heap_alloc_new w _) Tryz.underlying73 rfl (by rw [tokSize]; rfl)) rfl ⟨(Below.refl _ _).alloc (Nat.le_refl _) _, rfl⟩
set_option maxHeartbeats 4000000 in
set_option maxRecDepth 100000 in
/-- A text. -/
theorem refTok_text (s : ByteArray) (i : Nat) (w : World) (hs : s.size ≤ 1000000000000) (hi : i < s.size) (c34 : s[i] = 34) :
    Calls Tryz.prog 75 #[.string s, .int .i64 i] w (refAns w (textAt s.data.toList i)) := by
  have TC := Lib.hid (fun W => refText_any s i W hs hi)
  have e34 : ((s[i].toNat : Int) == 34) = true := byte_eq s[i] 34 c34
  have TZ := Lib.hid (Go.heap_alloc_new w (.cells zeroCells 73))
  have hI : ¬ ((s.size : Int) ≤ (i : Int)) := by omega
  rw [textAt_eq]
  clear c34
  generalize strL (s.data.toList.drop (i + 1)) (i + 1) [] = R at TC ⊢
  have fin : ∀ (c : Int) (a : Nat), c ≠ 0 → Hid (∀ W, Calls Tryz.prog 101 #[.string s, .int .i64 i] W fun e w' => e = .returned (.tuple #[.string ⟨#[]⟩, .int .i64 0, .int .i64 c, .int .i64 (a : Nat)]) ∧ Below W.heap.size W w') → Calls Tryz.prog 75 #[.string s, .int .i64 i] w (refAns w (.error (c, a))) := by
      intro c a hc TC
      have hc2 : (c != 0) = true := by simpa using hc
      clear hc
      go_enter Tryz.func75, Tryz.ntmps75
      go_wp2_with (go_at_call 101; refine (TC.out _).mono ?_; rintro e w2 ⟨rfl, hB2⟩; have tz2 := (hB2.block w.heap.size (by simp)).trans TZ.out; have y0 : w2.cell? ⟨w.heap.size, 0, none⟩ = some (.int .i64 0) := (Lib.cell_of_heap tz2 _).trans rfl; have y1 : w2.cell? ⟨w.heap.size, 1, none⟩ = some (.string ⟨#[]⟩) := (Lib.cell_of_heap tz2 _).trans rfl; have y2 : w2.cell? ⟨w.heap.size, 2, none⟩ = some (.int .i64 0) := (Lib.cell_of_heap tz2 _).trans rfl; have y3 : w2.cell? ⟨w.heap.size, 3, none⟩ = some (.int .i64 0) := (Lib.cell_of_heap tz2 _).trans rfl; have y4 : w2.cell? ⟨w.heap.size, 4, none⟩ = some (.int .i64 0) := (Lib.cell_of_heap tz2 _).trans rfl; have yf : ∀ j, w2.frozen? ⟨w.heap.size, j, none⟩ = false := (fun j => by simp [World.frozen?, tz2]); have hzl2 : w.heap.size < w2.heap.size := (by have := hB2.size; simp at this; omega); have HZ2 := Lib.hid tz2; have HB2 := Lib.hid hB2; clear hB2 tz2)
      try rw [Exit.noGoto_ret]
      refine bodyPost_ret (results_ctt rfl _ _ w.heap.size 73 zeroCells (0, 0) _ (.int .i64 c) (.int .i64 a) rfl rfl rfl (set5_same _ _ _ _ _ _ _ _ _ _ _ _ _ HZ2.out) Tryz.underlying73 rfl (by rw [tokSize]; rfl)) rfl ⟨?_, rfl⟩
      exact set5_below (((Below.refl _ _).alloc (Nat.le_refl _) _).trans (HB2.out.mono (by simp))) w.heap.size (Nat.le_refl _) _ _ _ _ _
  cases R with
  | open_ => exact fin 112 i (by decide) TC
  | byte p => exact fin 111 p (by decide) TC
  | esc p => exact fin 113 p (by decide) TC
  | done b e =>
    by_cases h127 : 127 < b.length
    · simp only [textV, if_pos h127] at TC
      simp only [strRes, if_pos h127]
      exact fin 115 i (by decide) TC
    · simp only [textV, if_neg h127] at TC
      simp only [strRes, if_neg h127]
      clear fin h127
      go_enter Tryz.func75, Tryz.ntmps75
      go_wp2_with (go_at_call 101; refine (TC.out _).mono ?_; rintro e w2 ⟨rfl, hB2⟩; have tz2 := (hB2.block w.heap.size (by simp)).trans TZ.out; have y0 : w2.cell? ⟨w.heap.size, 0, none⟩ = some (.int .i64 0) := (Lib.cell_of_heap tz2 _).trans rfl; have y1 : w2.cell? ⟨w.heap.size, 1, none⟩ = some (.string ⟨#[]⟩) := (Lib.cell_of_heap tz2 _).trans rfl; have y2 : w2.cell? ⟨w.heap.size, 2, none⟩ = some (.int .i64 0) := (Lib.cell_of_heap tz2 _).trans rfl; have y3 : w2.cell? ⟨w.heap.size, 3, none⟩ = some (.int .i64 0) := (Lib.cell_of_heap tz2 _).trans rfl; have y4 : w2.cell? ⟨w.heap.size, 4, none⟩ = some (.int .i64 0) := (Lib.cell_of_heap tz2 _).trans rfl; have yf : ∀ j, w2.frozen? ⟨w.heap.size, j, none⟩ = false := (fun j => by simp [World.frozen?, tz2]); have hzl2 : w.heap.size < w2.heap.size := (by have := hB2.size; simp at this; omega); have HZ2 := Lib.hid tz2; have HB2 := Lib.hid hB2; clear hB2 tz2)
      try rw [Exit.noGoto_ret]
      refine bodyPost_ret (results_ctt rfl _ _ w.heap.size 73 #[.int .i64 1, .string ⟨b.toArray⟩, .int .i64 0, .int .i64 i, .int .i64 e] (0, 0) _ (.int .i64 0) (.int .i64 0) rfl rfl rfl (set5_same _ _ _ _ _ _ _ _ _ _ _ _ _ HZ2.out) Tryz.underlying73 rfl (by rw [tokSize]; rfl)) rfl ⟨?_, rfl⟩
      exact set5_below (((Below.refl _ _).alloc (Nat.le_refl _) _).trans (HB2.out.mono (by simp))) w.heap.size (Nat.le_refl _) _ _ _ _ _

end Go.Proofs.YtfiljgkcipnghaaGreatDoor.X
set_option linter.unusedVariables false
set_option linter.unusedSimpArgs false
namespace Go.Proofs.YtfiljgkcipnghaaGreatDoor.X
open Go.RowKit
set_option maxHeartbeats 8000000 in
set_option maxRecDepth 100000 in
theorem refTok_word (s : ByteArray) (i : Nat) (w : World) (hs : s.size ≤ 1000000000000) (hi : i < s.size) (hw : wordB s[i] = true) (hd : digB s[i] = false) :
    Calls Tryz.prog 75 #[.string s, .int .i64 i] w (refAns w (.ok ⟨3, runL (s.data.toList.drop i), 0, i, i + (runL (s.data.toList.drop i)).length⟩)) := by
  have TZ := Lib.hid (Go.heap_alloc_new w (.cells zeroCells 73))
  have hI : ¬ ((s.size : Int) ≤ (i : Int)) := by omega
  have D1 := Lib.hid (fun W => refDigit_any s[i] W)
  have n34 : ((s[i].toNat : Int) == 34) = false := byte_ne s[i] 34 (by decide) (by intro e; rw [e] at hw; exact absurd hw (by decide))
  have n45 : ((s[i].toNat : Int) == 45) = false := byte_ne s[i] 45 (by decide) (by intro e; rw [e] at hw; exact absurd hw (by decide))
  have m45 : ((s[i].toNat : Int) != 45) = true := by rw [bne, n45]; rfl
  have HX := Lib.hid (run_word s i hi hw)
  have HLn := Lib.hid (run_word_len s i hi hw)
  have hE2 := twN_le s i (by omega)
  have hE3 := twN_yes hi hw
  rw [hd] at D1
  clear hd hw
  obtain ⟨E, hE⟩ : ∃ E, E = i + twN s i := ⟨_, rfl⟩
  have HE := Lib.hid hE
  rw [← hE] at HX hE2
  have hiE : i < E := by omega
  clear hE hE3
  go_enter Tryz.func75, Tryz.ntmps75
  go_upto_block 0 with ((go_at_call 102; (with_reducible refine (D1.out _).mono ?_); rintro e w5 ⟨rfl, rfl⟩))
  go_cut [12] from 61 to 72 (fun v wx => v = .int .i64 E ∧ wx = w.alloc (.cells zeroCells 73))
  case first =>
    go_wp2_with fail
    go_loopw [12] (fun v wr => ∃ k : Nat, i ≤ k ∧ k ≤ s.size ∧ v = .int .i64 k ∧ Hid (E = k + twN s k) ∧ w.alloc (.cells zeroCells 73) = wr) (fun v _ => s.size - (intOf v).toNat)
    case atStart => exact ⟨i, by omega, by omega, by go_num, HE, rfl⟩
    case round =>
      obtain ⟨k, hik, hk, rfl, HK, rfl⟩ := hrel
      by_cases hlt : k < s.size
      · have WC := Lib.hid (fun W => refWord_any s[k] W)
        have hI0 : (k : Int) < (s.size : Int) := by omega
        cases hw : wordB s[k] with
        | true =>
          have HK2 : Hid (E = (k + 1) + twN s (k + 1)) := Lib.hid (by rw [HK.out, twN_yes hlt hw]; omega)
          rw [hw] at WC
          clear hw
          go_wp2_with (go_at_call 104; refine (WC.out _).mono ?_; rintro e w3 ⟨rfl, rfl⟩)
          go_roundw
          case rel => exact ⟨k + 1, by omega, by omega, by go_num, HK2, trivial⟩
          case measure => simp [intOf]; omega
        | false =>
          have hEk : E = k := by rw [HK.out, twN_no hlt hw]; omega
          have HEK : Hid (k = E) := Lib.hid hEk.symm
          rw [hw] at WC
          clear hw hEk
          go_wp2_with (go_at_call 104; refine (WC.out _).mono ?_; rintro e w3 ⟨rfl, rfl⟩)
          go_meet
          case rel => exact ⟨by rw [HEK.out], rfl⟩
      · have hEk : E = k := by rw [HK.out, twN_end (by omega)]; omega
        have HEK : Hid (k = E) := Lib.hid hEk.symm
        have hI0 : ¬ ((k : Int) < (s.size : Int)) := by omega
        clear hEk
        go_wp2
        go_meet
        case rel => exact ⟨by rw [HEK.out], rfl⟩
  case rest =>
    obtain ⟨rfl, rfl⟩ := hcut
    go_wp2_with (first | (go_at_call 102; (with_reducible refine (D1.out _).mono ?_); rintro e w5 ⟨rfl, rfl⟩))
    try rw [Exit.noGoto_ret]
    have hl2 : i + (runL (s.data.toList.drop i)).length = E := by rw [HLn.out, HE.out]
    rw [hl2]
    refine bodyPost_ret (results_ctt rfl _ _ w.heap.size 73 #[.int .i64 3, .string (s.extract i E), .int .i64 0, .int .i64 i, .int .i64 E] (0, 0) _ (.int .i64 0) (.int .i64 0) rfl rfl rfl (Go.heap_alloc_new w _) Tryz.underlying73 rfl (by rw [tokSize]; rfl)) rfl ⟨(Below.refl _ _).alloc (Nat.le_refl _) _, ?_⟩
    simp only [tokV, tokCells, HX.out]

set_option maxHeartbeats 8000000 in
set_option maxRecDepth 100000 in
theorem refTok_dig (s : ByteArray) (i : Nat) (w : World) (hs : s.size ≤ 1000000000000) (hi : i < s.size) (hd : digB s[i] = true) :
    Calls Tryz.prog 75 #[.string s, .int .i64 i] w (refAns w (numRes (runL (s.data.toList.drop i)) i)) := by
  have TZ := Lib.hid (Go.heap_alloc_new w (.cells zeroCells 73))
  have hI : ¬ ((s.size : Int) ≤ (i : Int)) := by omega
  have D1 := Lib.hid (fun W => refDigit_any s[i] W)
  have n34 : ((s[i].toNat : Int) == 34) = false := byte_ne s[i] 34 (by decide) (by intro e; rw [e] at hd; exact absurd hd (by decide))
  have n45 : ((s[i].toNat : Int) == 45) = false := byte_ne s[i] 45 (by decide) (by intro e; rw [e] at hd; exact absurd hd (by decide))
  have m45 : ((s[i].toNat : Int) != 45) = true := by rw [bne, n45]; rfl
  have hwd : wordB s[i] = true := by simp [wordB, hd]
  have htw := twN_yes hi hwd
  have hb := run_bytes s i hi
  have hrl := run_len s i hi
  have hE2 := twN_le s (i + 1) (by omega)
  obtain ⟨E, hE⟩ : ∃ E, E = i + 1 + twN s (i + 1) := ⟨_, rfl⟩
  rw [← hE] at hb hE2
  have hiE : i < E := by omega
  have HLn : Hid (i + (runL (s.data.toList.drop i)).length = E) := Lib.hid (by omega)
  have NC := Lib.hid (fun W => refNumber_any (s.extract i E) W (by have := extract_le s i E; omega))
  rw [hb, ← num_eq] at NC
  unfold numRes
  obtain ⟨o, ho⟩ : ∃ o, o = numOf (runL (s.data.toList.drop i)) := ⟨_, rfl⟩
  rw [← ho] at NC ⊢
  have HE : Hid (E = i + twN s i) := Lib.hid (by omega)
  rw [hd] at D1
  clear hd hwd htw hb hrl hE ho
  go_enter Tryz.func75, Tryz.ntmps75
  go_upto_block 0 with ((go_at_call 102; (with_reducible refine (D1.out _).mono ?_); rintro e w5 ⟨rfl, rfl⟩))
  go_cut [12] from 61 to 72 (fun v wx => v = .int .i64 E ∧ wx = w.alloc (.cells zeroCells 73))
  case first =>
    go_wp2_with fail
    go_loopw [12] (fun v wr => ∃ k : Nat, i ≤ k ∧ k ≤ s.size ∧ v = .int .i64 k ∧ Hid (E = k + twN s k) ∧ w.alloc (.cells zeroCells 73) = wr) (fun v _ => s.size - (intOf v).toNat)
    case atStart => exact ⟨i, by omega, by omega, by go_num, HE, rfl⟩
    case round =>
      obtain ⟨k, hik, hk, rfl, HK, rfl⟩ := hrel
      by_cases hlt : k < s.size
      · have WC := Lib.hid (fun W => refWord_any s[k] W)
        have hI0 : (k : Int) < (s.size : Int) := by omega
        cases hw : wordB s[k] with
        | true =>
          have HK2 : Hid (E = (k + 1) + twN s (k + 1)) := Lib.hid (by rw [HK.out, twN_yes hlt hw]; omega)
          rw [hw] at WC
          clear hw
          go_wp2_with (go_at_call 104; refine (WC.out _).mono ?_; rintro e w3 ⟨rfl, rfl⟩)
          go_roundw
          case rel => exact ⟨k + 1, by omega, by omega, by go_num, HK2, trivial⟩
          case measure => simp [intOf]; omega
        | false =>
          have hEk : E = k := by rw [HK.out, twN_no hlt hw]; omega
          have HEK : Hid (k = E) := Lib.hid hEk.symm
          rw [hw] at WC
          clear hw hEk
          go_wp2_with (go_at_call 104; refine (WC.out _).mono ?_; rintro e w3 ⟨rfl, rfl⟩)
          go_meet
          case rel => exact ⟨by rw [HEK.out], rfl⟩
      · have hEk : E = k := by rw [HK.out, twN_end (by omega)]; omega
        have HEK : Hid (k = E) := Lib.hid hEk.symm
        have hI0 : ¬ ((k : Int) < (s.size : Int)) := by omega
        clear hEk
        go_wp2
        go_meet
        case rel => exact ⟨by rw [HEK.out], rfl⟩
  case rest =>
    obtain ⟨rfl, rfl⟩ := hcut
    cases o with
    | none =>
      simp only [numV] at NC
      go_wp2_with (first | (go_at_call 102; (with_reducible refine (D1.out _).mono ?_); rintro e w5 ⟨rfl, rfl⟩) | (go_at_call 105; refine (NC.out _).mono ?_; rintro e w6 ⟨rfl, rfl⟩))
      try rw [Exit.noGoto_ret]
      refine bodyPost_ret (results_ctt rfl _ _ w.heap.size 73 zeroCells (0, 0) _ (.int .i64 114) (.int .i64 i) rfl rfl rfl (Go.heap_alloc_new w _) Tryz.underlying73 rfl (by rw [tokSize]; rfl)) rfl ?_
      exact ⟨(Below.refl _ _).alloc (Nat.le_refl _) _, rfl⟩
    | some n =>
      simp only [numV] at NC
      go_wp2_with (first | (go_at_call 102; (with_reducible refine (D1.out _).mono ?_); rintro e w5 ⟨rfl, rfl⟩) | (go_at_call 105; refine (NC.out _).mono ?_; rintro e w6 ⟨rfl, rfl⟩))
      try rw [Exit.noGoto_ret]
      refine bodyPost_ret (results_ctt rfl _ _ w.heap.size 73 #[.int .i64 2, .string ⟨#[]⟩, .int .i64 n, .int .i64 i, .int .i64 E] (0, 0) _ (.int .i64 0) (.int .i64 0) rfl rfl rfl (Go.heap_alloc_new w _) Tryz.underlying73 rfl (by rw [tokSize]; rfl)) rfl ?_
      exact ⟨(Below.refl _ _).alloc (Nat.le_refl _) _, by rw [HLn.out]; rfl⟩

set_option maxHeartbeats 8000000 in
set_option maxRecDepth 100000 in
theorem refTok_minus (s : ByteArray) (i : Nat) (w : World) (hs : s.size ≤ 1000000000000) (hi : i < s.size) (c45 : s[i] = 45) (h1 : i + 1 < s.size) (hd : digB s[i + 1] = true) :
    Calls Tryz.prog 75 #[.string s, .int .i64 i] w (refAns w (numRes (runL (s.data.toList.drop i)) i)) := by
  have TZ := Lib.hid (Go.heap_alloc_new w (.cells zeroCells 73))
  have hI : ¬ ((s.size : Int) ≤ (i : Int)) := by omega
  have D1 := Lib.hid (fun W => refDigit_any s[i] W)
  have n34 : ((s[i].toNat : Int) == 34) = false := byte_ne s[i] 34 (by decide) (by intro e; rw [e] at c45; exact absurd c45 (by decide))
  have e45 : ((s[i].toNat : Int) == 45) = true := byte_eq s[i] 45 c45
  have m45 : ((s[i].toNat : Int) != 45) = false := by rw [bne, e45]; rfl
  have B1 := Lib.hid (fun x (hx : x = ((i + 1 : Nat) : Int)) W => byteAt_any s x (i + 1) hx W)
  have D2 := Lib.hid (fun W => refDigit_any (atB s (i + 1)) W)
  rw [atB_lt h1] at B1 D2
  rw [hd] at D2
  have hb := run_bytes s i hi
  have hrl := run_len s i hi
  have hE2 := twN_le s (i + 1) (by omega)
  obtain ⟨E, hE⟩ : ∃ E, E = i + 1 + twN s (i + 1) := ⟨_, rfl⟩
  rw [← hE] at hb hE2
  have hiE : i < E := by omega
  have HLn : Hid (i + (runL (s.data.toList.drop i)).length = E) := Lib.hid (by omega)
  have NC := Lib.hid (fun W => refNumber_any (s.extract i E) W (by have := extract_le s i E; omega))
  rw [hb, ← num_eq] at NC
  unfold numRes
  obtain ⟨o, ho⟩ : ∃ o, o = numOf (runL (s.data.toList.drop i)) := ⟨_, rfl⟩
  rw [← ho] at NC ⊢
  have HE : Hid (E = (i + 1) + twN s (i + 1)) := Lib.hid hE
  clear hd hb hrl hE ho c45
  go_enter Tryz.func75, Tryz.ntmps75
  go_upto_block 0 with (first | (go_at_call 103; (with_reducible refine (B1.out _ (by omega) _).mono ?_); rintro e w5 ⟨rfl, rfl⟩) | (go_at_call 102; (with_reducible refine (D2.out _).mono ?_); rintro e w5 ⟨rfl, rfl⟩))
  go_cut [12] from 61 to 72 (fun v wx => v = .int .i64 E ∧ wx = w.alloc (.cells zeroCells 73))
  case first =>
    go_wp2_with fail
    go_loopw [12] (fun v wr => ∃ k : Nat, i ≤ k ∧ k ≤ s.size ∧ v = .int .i64 k ∧ Hid (E = k + twN s k) ∧ w.alloc (.cells zeroCells 73) = wr) (fun v _ => s.size - (intOf v).toNat)
    case atStart => exact ⟨i + 1, by omega, by omega, by go_num, HE, rfl⟩
    case round =>
      obtain ⟨k, hik, hk, rfl, HK, rfl⟩ := hrel
      by_cases hlt : k < s.size
      · have WC := Lib.hid (fun W => refWord_any s[k] W)
        have hI0 : (k : Int) < (s.size : Int) := by omega
        cases hw : wordB s[k] with
        | true =>
          have HK2 : Hid (E = (k + 1) + twN s (k + 1)) := Lib.hid (by rw [HK.out, twN_yes hlt hw]; omega)
          rw [hw] at WC
          clear hw
          go_wp2_with (go_at_call 104; refine (WC.out _).mono ?_; rintro e w3 ⟨rfl, rfl⟩)
          go_roundw
          case rel => exact ⟨k + 1, by omega, by omega, by go_num, HK2, trivial⟩
          case measure => simp [intOf]; omega
        | false =>
          have hEk : E = k := by rw [HK.out, twN_no hlt hw]; omega
          have HEK : Hid (k = E) := Lib.hid hEk.symm
          rw [hw] at WC
          clear hw hEk
          go_wp2_with (go_at_call 104; refine (WC.out _).mono ?_; rintro e w3 ⟨rfl, rfl⟩)
          go_meet
          case rel => exact ⟨by rw [HEK.out], rfl⟩
      · have hEk : E = k := by rw [HK.out, twN_end (by omega)]; omega
        have HEK : Hid (k = E) := Lib.hid hEk.symm
        have hI0 : ¬ ((k : Int) < (s.size : Int)) := by omega
        clear hEk
        go_wp2
        go_meet
        case rel => exact ⟨by rw [HEK.out], rfl⟩
  case rest =>
    obtain ⟨rfl, rfl⟩ := hcut
    cases o with
    | none =>
      simp only [numV] at NC
      go_wp2_with (first | (go_at_call 102; (with_reducible refine (D2.out _).mono ?_); rintro e w5 ⟨rfl, rfl⟩) | (go_at_call 105; refine (NC.out _).mono ?_; rintro e w6 ⟨rfl, rfl⟩))
      try rw [Exit.noGoto_ret]
      refine bodyPost_ret (results_ctt rfl _ _ w.heap.size 73 zeroCells (0, 0) _ (.int .i64 114) (.int .i64 i) rfl rfl rfl (Go.heap_alloc_new w _) Tryz.underlying73 rfl (by rw [tokSize]; rfl)) rfl ?_
      exact ⟨(Below.refl _ _).alloc (Nat.le_refl _) _, rfl⟩
    | some n =>
      simp only [numV] at NC
      go_wp2_with (first | (go_at_call 102; (with_reducible refine (D2.out _).mono ?_); rintro e w5 ⟨rfl, rfl⟩) | (go_at_call 105; refine (NC.out _).mono ?_; rintro e w6 ⟨rfl, rfl⟩))
      try rw [Exit.noGoto_ret]
      refine bodyPost_ret (results_ctt rfl _ _ w.heap.size 73 #[.int .i64 2, .string ⟨#[]⟩, .int .i64 n, .int .i64 i, .int .i64 E] (0, 0) _ (.int .i64 0) (.int .i64 0) rfl rfl rfl (Go.heap_alloc_new w _) Tryz.underlying73 rfl (by rw [tokSize]; rfl)) rfl ?_
      exact ⟨(Below.refl _ _).alloc (Nat.le_refl _) _, by rw [HLn.out]; rfl⟩

end Go.Proofs.YtfiljgkcipnghaaGreatDoor.X
set_option linter.unusedVariables false
set_option linter.unusedSimpArgs false
namespace Go.Proofs.YtfiljgkcipnghaaGreatDoor.X
open Go.RowKit
theorem pre_iff (s : ByteArray) (i : Nat) (m : Bs) (h : i + m.length ≤ s.size) : m.isPrefixOf (s.data.toList.drop i) = ((s.extract i (i + m.length)).toList == m) := by
  have e : (s.extract i (i + m.length)).toList = (s.data.toList.drop i).take m.length := by
    rw [ByteArray.toList_eq]
    simp only [ByteArray.data_extract, Array.toList_extract, List.extract_eq_take_drop]
    rw [show i + m.length - i = m.length by omega]
  rw [e, Bool.eq_iff_iff, List.isPrefixOf_iff_prefix, List.prefix_iff_eq_take, beq_iff_eq]
  exact eq_comm
theorem pre_no (s : ByteArray) (i : Nat) (m : Bs) (hi : i ≤ s.size) (h : ¬ i + m.length ≤ s.size) : m.isPrefixOf (s.data.toList.drop i) = false := by
  cases hp : m.isPrefixOf (s.data.toList.drop i) with
  | false => rfl
  | true =>
    have h2 := (List.isPrefixOf_iff_prefix.1 hp).length_le
    rw [List.length_drop, size_len] at h2
    omega
theorem marks_some : ∀ m ∈ marksL, m ≠ [] := by decide
theorem getD_lt (k : Nat) (h : k < 17) : marksL.getD k [] = marksL[k]'h := by
  rw [List.getD_eq_getElem?_getD, List.getElem?_eq_getElem h]; rfl
set_option maxHeartbeats 8000000 in
set_option maxRecDepth 100000 in
theorem refTok_mark (s : ByteArray) (i : Nat) (w : World) (hs : s.size ≤ 1000000000000) (hi : i < s.size) (h34 : ¬ s[i] = 34) (hd : digB s[i] = false) (hw : wordB s[i] = false) (n45b : ¬ s[i] = 45) :
    Calls Tryz.prog 75 #[.string s, .int .i64 i] w (refAns w (markRes i (findMark (s.data.toList.drop i) marksL))) := by
  have hI : ¬ ((s.size : Int) ≤ (i : Int)) := by omega
  have TZ := Lib.hid (Go.heap_alloc_new w (.cells zeroCells 73))
  have D1 := Lib.hid (fun W => refDigit_any s[i] W)
  have W1 := Lib.hid (fun W => refWord_any s[i] W)
  have n34 : ((s[i].toNat : Int) == 34) = false := byte_ne s[i] 34 (by decide) h34
  have n45 : ((s[i].toNat : Int) == 45) = false := byte_ne s[i] 45 (by decide) n45b
  rw [hd] at D1
  rw [hw] at W1
  clear h34 hd hw n45b
  obtain ⟨R, hR⟩ : ∃ R, R = findMark (s.data.toList.drop i) (marksL.drop 0) := ⟨_, rfl⟩
  have hR0 : findMark (s.data.toList.drop i) marksL = R := hR.symm
  rw [hR0]
  have HF := Lib.hid hR
  clear hR hR0
  go_enter Tryz.func75, Tryz.ntmps75
  go_upto_block 0 with (go_at_call 102; (with_reducible refine (D1.out _).mono ?_); rintro e w5 ⟨rfl, rfl⟩)
  go_cut [12] from 61 to 72 (fun v wx => v = .int .i64 i ∧ wx = w.alloc (.cells zeroCells 73))
  case first =>
    go_wp2_with fail
    go_loopw [12] (fun v wr => v = .int .i64 i ∧ w.alloc (.cells zeroCells 73) = wr) (fun v _ => 0)
    case atStart => exact ⟨rfl, rfl⟩
    case round =>
      obtain ⟨rfl, rfl⟩ := hrel
      go_wp2_with (go_at_call 104; (with_reducible refine (W1.out _).mono ?_); rintro e w5 ⟨rfl, rfl⟩)
      go_meet
      case rel => exact ⟨rfl, rfl⟩
  case rest =>
    obtain ⟨rfl, rfl⟩ := hcut
    go_wp2_with fail
    go_loopw [16] (fun v wr => ∃ k : Nat, k ≤ 17 ∧ v = .int .i64 k ∧ Hid (R = findMark (s.data.toList.drop i) (marksL.drop k)) ∧ w.alloc (.cells zeroCells 73) = wr) (fun v _ => 17 - (intOf v).toNat)
    case atStart => exact ⟨0, by omega, rfl, HF, rfl⟩
    case round =>
      obtain ⟨k, hk, rfl, HK, rfl⟩ := hrel
      have MC := Lib.hid (fun W => refMarks_any k hk W)
      by_cases hlt : k < 17
      · rw [getD_lt k hlt] at MC
        have HK2 := Lib.hid (HK.out.trans (find_step (s.data.toList.drop i) k hlt))
        have hml := marks_two _ (List.getElem_mem hlt)
        have hmn := marks_some _ (List.getElem_mem hlt)
        generalize marksL[k] = m at MC HK2 hml hmn
        have hme : (!m.isEmpty) = true := by cases m with
          | nil => exact absurd rfl hmn
          | cons a b => rfl
        by_cases hle : i + m.length ≤ s.size
        · have hI3 : (i : Int) + (m.length : Int) ≤ (s.size : Int) := by omega
          have hp := pre_iff s i m hle
          cases hq : ((s.extract i (i + m.length)).toList == m) with
          | true =>
            have HE : Hid (R = some m) := Lib.hid (by rw [HK2.out, hp, hq]; rfl)
            clear hp hmn
            go_wp2_with (go_at_call 106; refine (MC.out _).mono ?_; rintro e w5 ⟨rfl, rfl⟩)
            try rw [Exit.noGoto_ret]
            rw [HE.out]
            refine bodyPost_ret (results_ctt rfl _ _ w.heap.size 73 #[.int .i64 4, .string ⟨m.toArray⟩, .int .i64 0, .int .i64 i, .int .i64 ((i : Int) + (m.length : Int))] (0, 0) _ (.int .i64 0) (.int .i64 0) rfl rfl rfl (Go.heap_alloc_new w _) Tryz.underlying73 rfl (by rw [tokSize]; rfl)) rfl ⟨(Below.refl _ _).alloc (Nat.le_refl _) _, rfl⟩
          | false =>
            have HE : Hid (R = findMark (s.data.toList.drop i) (marksL.drop (k + 1))) := Lib.hid (by rw [HK2.out, hp, hq]; rfl)
            clear hp hmn
            go_wp2_with (go_at_call 106; refine (MC.out _).mono ?_; rintro e w5 ⟨rfl, rfl⟩)
            exact ⟨⟨k + 1, by omega, by simp, HE, trivial⟩, by simp [intOf]; omega⟩
        · have hI3 : ¬ ((i : Int) + (m.length : Int) ≤ (s.size : Int)) := by omega
          have HE : Hid (R = findMark (s.data.toList.drop i) (marksL.drop (k + 1))) := Lib.hid (by rw [HK2.out, pre_no s i m (by omega) hle]; rfl)
          clear hmn
          go_wp2_with (go_at_call 106; refine (MC.out _).mono ?_; rintro e w5 ⟨rfl, rfl⟩)
          exact ⟨⟨k + 1, by omega, by simp, HE, trivial⟩, by simp [intOf]; omega⟩
      · obtain rfl : k = 17 := by omega
        have HE : Hid (R = none) := Lib.hid HK.out
        go_wp2_with (go_at_call 106; refine (MC.out _).mono ?_; rintro e w5 ⟨rfl, rfl⟩)
        try rw [Exit.noGoto_ret]
        rw [HE.out]
        refine bodyPost_ret (results_ctt rfl _ _ w.heap.size 73 zeroCells (0, 0) _ (.int .i64 111) (.int .i64 i) rfl rfl rfl (Go.heap_alloc_new w _) Tryz.underlying73 rfl (by rw [tokSize]; rfl)) rfl ⟨(Below.refl _ _).alloc (Nat.le_refl _) _, rfl⟩

end Go.Proofs.YtfiljgkcipnghaaGreatDoor.X
set_option linter.unusedVariables false
set_option linter.unusedSimpArgs false
namespace Go.Proofs.YtfiljgkcipnghaaGreatDoor.X
open Go.RowKit
set_option maxHeartbeats 8000000 in
set_option maxRecDepth 100000 in
theorem refTok_dash (s : ByteArray) (i : Nat) (w : World) (hs : s.size ≤ 1000000000000) (hi : i < s.size) (h34 : ¬ s[i] = 34) (hd : digB s[i] = false) (hw : wordB s[i] = false) (c45 : s[i] = 45) (hd1 : digB (atB s (i + 1)) = false) :
    Calls Tryz.prog 75 #[.string s, .int .i64 i] w (refAns w (markRes i (findMark (s.data.toList.drop i) marksL))) := by
  have hI : ¬ ((s.size : Int) ≤ (i : Int)) := by omega
  have TZ := Lib.hid (Go.heap_alloc_new w (.cells zeroCells 73))
  have D1 := Lib.hid (fun W => refDigit_any s[i] W)
  have W1 := Lib.hid (fun W => refWord_any s[i] W)
  have n34 : ((s[i].toNat : Int) == 34) = false := byte_ne s[i] 34 (by decide) h34
  have e45 : ((s[i].toNat : Int) == 45) = true := byte_eq s[i] 45 c45
  have B1 := Lib.hid (fun x (hx : x = ((i + 1 : Nat) : Int)) W => byteAt_any s x (i + 1) hx W)
  have D2 := Lib.hid (fun W => refDigit_any (atB s (i + 1)) W)
  rw [hd1] at D2
  rw [hd] at D1
  rw [hw] at W1
  clear h34 hd hw c45 hd1
  obtain ⟨R, hR⟩ : ∃ R, R = findMark (s.data.toList.drop i) (marksL.drop 0) := ⟨_, rfl⟩
  have hR0 : findMark (s.data.toList.drop i) marksL = R := hR.symm
  rw [hR0]
  have HF := Lib.hid hR
  clear hR hR0
  go_enter Tryz.func75, Tryz.ntmps75
  go_upto_block 0 with (first | (go_at_call 103; (with_reducible refine (B1.out _ (by omega) _).mono ?_); rintro e w5 ⟨rfl, rfl⟩) | (go_at_call 102; (with_reducible refine (D2.out _).mono ?_); rintro e w5 ⟨rfl, rfl⟩))
  go_cut [12] from 61 to 72 (fun v wx => v = .int .i64 i ∧ wx = w.alloc (.cells zeroCells 73))
  case first =>
    go_wp2_with fail
    go_loopw [12] (fun v wr => v = .int .i64 i ∧ w.alloc (.cells zeroCells 73) = wr) (fun v _ => 0)
    case atStart => exact ⟨rfl, rfl⟩
    case round =>
      obtain ⟨rfl, rfl⟩ := hrel
      go_wp2_with (go_at_call 104; (with_reducible refine (W1.out _).mono ?_); rintro e w5 ⟨rfl, rfl⟩)
      go_meet
      case rel => exact ⟨rfl, rfl⟩
  case rest =>
    obtain ⟨rfl, rfl⟩ := hcut
    go_wp2_with fail
    go_loopw [16] (fun v wr => ∃ k : Nat, k ≤ 17 ∧ v = .int .i64 k ∧ Hid (R = findMark (s.data.toList.drop i) (marksL.drop k)) ∧ w.alloc (.cells zeroCells 73) = wr) (fun v _ => 17 - (intOf v).toNat)
    case atStart => exact ⟨0, by omega, rfl, HF, rfl⟩
    case round =>
      obtain ⟨k, hk, rfl, HK, rfl⟩ := hrel
      have MC := Lib.hid (fun W => refMarks_any k hk W)
      by_cases hlt : k < 17
      · rw [getD_lt k hlt] at MC
        have HK2 := Lib.hid (HK.out.trans (find_step (s.data.toList.drop i) k hlt))
        have hml := marks_two _ (List.getElem_mem hlt)
        have hmn := marks_some _ (List.getElem_mem hlt)
        generalize marksL[k] = m at MC HK2 hml hmn
        have hme : (!m.isEmpty) = true := by cases m with
          | nil => exact absurd rfl hmn
          | cons a b => rfl
        by_cases hle : i + m.length ≤ s.size
        · have hI3 : (i : Int) + (m.length : Int) ≤ (s.size : Int) := by omega
          have hp := pre_iff s i m hle
          cases hq : ((s.extract i (i + m.length)).toList == m) with
          | true =>
            have HE : Hid (R = some m) := Lib.hid (by rw [HK2.out, hp, hq]; rfl)
            clear hp hmn
            go_wp2_with (go_at_call 106; refine (MC.out _).mono ?_; rintro e w5 ⟨rfl, rfl⟩)
            try rw [Exit.noGoto_ret]
            rw [HE.out]
            refine bodyPost_ret (results_ctt rfl _ _ w.heap.size 73 #[.int .i64 4, .string ⟨m.toArray⟩, .int .i64 0, .int .i64 i, .int .i64 ((i : Int) + (m.length : Int))] (0, 0) _ (.int .i64 0) (.int .i64 0) rfl rfl rfl (Go.heap_alloc_new w _) Tryz.underlying73 rfl (by rw [tokSize]; rfl)) rfl ⟨(Below.refl _ _).alloc (Nat.le_refl _) _, rfl⟩
          | false =>
            have HE : Hid (R = findMark (s.data.toList.drop i) (marksL.drop (k + 1))) := Lib.hid (by rw [HK2.out, hp, hq]; rfl)
            clear hp hmn
            go_wp2_with (go_at_call 106; refine (MC.out _).mono ?_; rintro e w5 ⟨rfl, rfl⟩)
            exact ⟨⟨k + 1, by omega, by simp, HE, trivial⟩, by simp [intOf]; omega⟩
        · have hI3 : ¬ ((i : Int) + (m.length : Int) ≤ (s.size : Int)) := by omega
          have HE : Hid (R = findMark (s.data.toList.drop i) (marksL.drop (k + 1))) := Lib.hid (by rw [HK2.out, pre_no s i m (by omega) hle]; rfl)
          clear hmn
          go_wp2_with (go_at_call 106; refine (MC.out _).mono ?_; rintro e w5 ⟨rfl, rfl⟩)
          exact ⟨⟨k + 1, by omega, by simp, HE, trivial⟩, by simp [intOf]; omega⟩
      · obtain rfl : k = 17 := by omega
        have HE : Hid (R = none) := Lib.hid HK.out
        go_wp2_with (go_at_call 106; refine (MC.out _).mono ?_; rintro e w5 ⟨rfl, rfl⟩)
        try rw [Exit.noGoto_ret]
        rw [HE.out]
        refine bodyPost_ret (results_ctt rfl _ _ w.heap.size 73 zeroCells (0, 0) _ (.int .i64 111) (.int .i64 i) rfl rfl rfl (Go.heap_alloc_new w _) Tryz.underlying73 rfl (by rw [tokSize]; rfl)) rfl ⟨(Below.refl _ _).alloc (Nat.le_refl _) _, rfl⟩
/-- TokenAt, whatever stands there. -/
theorem refTok_any (s : ByteArray) (i : Nat) (w : World) (hs : s.size ≤ 1000000000000) (hi : i ≤ s.size) :
    Calls Tryz.prog 75 #[.string s, .int .i64 i] w (refAns w (tokAt s.data.toList i)) := by
  by_cases hlt : i < s.size
  · have hD := drop_at s i hlt
    unfold tokAt
    rw [hD]
    simp only
    rw [← hD]
    by_cases c34 : s[i] = 34
    · rw [if_pos c34]; exact refTok_text s i w hs hlt c34
    rw [if_neg c34]
    have fin : ∀ (hd : digB s[i] = false) (H : wordB s[i] = false → Calls Tryz.prog 75 #[.string s, .int .i64 i] w (refAns w (markRes i (findMark (s.data.toList.drop i) marksL)))),
        Calls Tryz.prog 75 #[.string s, .int .i64 i] w (refAns w (if wordB s[i] = true then .ok ⟨3, runL (s.data.toList.drop i), 0, i, i + (runL (s.data.toList.drop i)).length⟩ else match findMark (s.data.toList.drop i) marksL with
          | some m => .ok ⟨4, m, 0, i, i + m.length⟩
          | none => .error (111, i))) := by
      intro hd H
      cases hw : wordB s[i] with
      | true => simp only [if_true]; exact refTok_word s i w hs hlt hw hd
      | false =>
        simp only [Bool.false_eq_true, if_false]
        have h := H hw
        cases hm : findMark (s.data.toList.drop i) marksL with
        | some m => rw [hm] at h; exact h
        | none => rw [hm] at h; exact h
    cases hd : digB s[i] with
    | true =>
      simp only [Bool.true_or, if_true]
      exact refTok_dig s i w hs hlt hd
    | false =>
      simp only [Bool.false_or]
      by_cases c45 : s[i] = 45
      · by_cases h1 : i + 1 < s.size
        · have hD1 := drop_at s (i + 1) h1
          rw [hD1]
          cases hd2 : digB s[i + 1] with
          | true =>
            have e : (s[i] == 45 && digB s[i + 1]) = true := by rw [hd2, c45]; rfl
            simp only [e, if_true]
            exact refTok_minus s i w hs hlt c45 h1 hd2
          | false =>
            have e : (s[i] == 45 && digB s[i + 1]) = false := by rw [hd2, Bool.and_false]
            simp only [e, Bool.false_eq_true, if_false]
            exact fin hd (fun hw => refTok_dash s i w hs hlt c34 hd hw c45 (by rw [atB_lt h1]; exact hd2))
        · rw [drop_end s (i + 1) (by omega)]
          simp only [Bool.and_false, Bool.false_eq_true, if_false]
          exact fin hd (fun hw => refTok_dash s i w hs hlt c34 hd hw c45 (by rw [atB_ge h1]; decide))
      · have e : (s[i] == 45) = false := by simpa using c45
        simp only [e, Bool.false_and, Bool.false_eq_true, if_false]
        exact fin hd (fun hw => refTok_mark s i w hs hlt c34 hd hw c45)
  · obtain rfl : i = s.size := by omega
    have h : tokAt s.data.toList s.size = .ok ⟨0, [], 0, s.size, s.size⟩ := by
      unfold tokAt; rw [drop_end s s.size (Nat.le_refl _), size_len]
    rw [h]
    exact refTok_end s w hs

end Go.Proofs.YtfiljgkcipnghaaGreatDoor.X
set_option linter.unusedVariables false
set_option linter.unusedSimpArgs false
namespace Go.Proofs.YtfiljgkcipnghaaGreatDoor.X
open Go.RowKit
set_option maxHeartbeats 4000000 in
set_option maxRecDepth 100000 in
theorem refGap_any (s : ByteArray) (i : Nat) (w : World) (hs : s.size ≤ 1000000000000) (hi : i ≤ s.size) :
    Calls Tryz.prog 74 #[.string s, .int .i64 i] w fun e w' => e = .returned (.int .i64 ((i + gapN false (s.data.toList.drop i) : Nat) : Int)) ∧ w = w' := by
  obtain ⟨E, hE⟩ : ∃ E, E = i + gapN false (s.data.toList.drop i) := ⟨_, rfl⟩
  rw [← hE]
  have HE := Lib.hid hE
  clear hE
  go_enter Tryz.func74, Tryz.ntmps74
  go_wp2
  go_loopw [1] (fun v w' => ∃ k : Nat, k ≤ s.size ∧ v = .int .i64 k ∧ Hid (E = k + gapN false (s.data.toList.drop k)) ∧ w = w') (fun v _ => s.size - (intOf v).toNat)
  case atStart => exact ⟨i, hi, rfl, HE, rfl⟩
  case round =>
    obtain ⟨k, hk, rfl, HK, rfl⟩ := hrel
    clear HE hi
    by_cases hlt : k < s.size
    · have HD := Lib.hid (drop_at s k hlt)
      have hI : (k : Int) < (s.size : Int) := by omega
      by_cases c35 : s[k] = 35
      · have e35 : ((s[k].toNat : Int) == 35) = true := byte_eq s[k] 35 c35
        have HK2 : Hid (E = k + gapN true (s.data.toList.drop k)) := Lib.hid (by
          rw [HK.out, HD.out, c35]; simp [gapN, blankB])
        have HC := Lib.hid c35
        clear c35
        go_wp2
        go_loopw [1] (fun v w' => ∃ j : Nat, k ≤ j ∧ j ≤ s.size ∧ v = .int .i64 j ∧ Hid (E = j + gapN true (s.data.toList.drop j)) ∧ w = w') (fun v _ => s.size - (intOf v).toNat)
        case atStart => exact ⟨k, Nat.le_refl _, hk, rfl, HK2, rfl⟩
        case round =>
          obtain ⟨j, hkj, hj, rfl, HJ, rfl⟩ := hrel
          by_cases hlj : j < s.size
          · have HDj := Lib.hid (drop_at s j hlj)
            have hIj : (j : Int) < (s.size : Int) := by omega
            by_cases c10 : s[j] = 10
            · have e10 : ((s[j].toNat : Int) != 10) = false := byte_bnf s[j] 10 c10
              have hjk : k < j := by
                apply Classical.byContradiction; intro h
                obtain rfl : j = k := by omega
                have := HC.out; rw [c10] at this; exact absurd this (by decide)
              have HN : Hid (E = j + gapN false (s.data.toList.drop j)) := Lib.hid (by rw [HJ.out, HDj.out, c10]; simp [gapN, blankB])
              clear c10
              go_wp2
              go_roundw
              case rel => exact ⟨j, hj, rfl, HN, trivial⟩
              case measure => simp [intOf]; omega
            · have n10 : ((s[j].toNat : Int) != 10) = true := byte_bnt s[j] 10 (by decide) c10
              have HN : Hid (E = (j + 1) + gapN true (s.data.toList.drop (j + 1))) := Lib.hid (by rw [HJ.out, HDj.out]; simp only [gapN, if_neg c10]; omega)
              clear c10
              go_wp2
              go_roundw
              case rel => exact ⟨j + 1, by omega, by omega, by go_num, HN, trivial⟩
              case measure => simp [intOf]; omega
          · have hIj : ¬ ((j : Int) < (s.size : Int)) := by omega
            have HN : Hid (E = j + gapN false (s.data.toList.drop j)) := Lib.hid (by rw [HJ.out, drop_end s j (by omega)]; simp [gapN])
            go_wp2
            go_roundw
            case rel => exact ⟨j, hj, rfl, HN, trivial⟩
            case measure => simp [intOf]; omega
      · have n35 : ((s[k].toNat : Int) == 35) = false := byte_ne s[k] 35 (by decide) c35
        by_cases hb : blankB s[k] = true
        · have hb2 := hb
          simp only [blankB, Bool.or_eq_true, beq_iff_eq] at hb2
          have HN : Hid (E = (k + 1) + gapN false (s.data.toList.drop (k + 1))) := Lib.hid (by rw [HK.out, HD.out]; simp only [gapN, hb, if_true]; omega)
          clear hb
          have hb3 : s[k] = 32 ∨ (¬ s[k] = 32 ∧ s[k] = 9) ∨ (¬ s[k] = 32 ∧ ¬ s[k] = 9 ∧ s[k] = 10) ∨ (¬ s[k] = 32 ∧ ¬ s[k] = 9 ∧ ¬ s[k] = 10 ∧ s[k] = 13) := by
            rcases hb2 with ((h | h) | h) | h <;> simp [h]
          clear hb2 c35
          rcases hb3 with h | ⟨h1, h⟩ | ⟨h1, h2, h⟩ | ⟨h1, h2, h3, h⟩
          · have e32 : ((s[k].toNat : Int) == 32) = true := byte_eq s[k] 32 h
            clear h
            go_wp2
            go_roundw
            case rel => exact ⟨k + 1, by omega, by go_num, HN, trivial⟩
            case measure => simp [intOf]; omega
          · have n32 : ((s[k].toNat : Int) == 32) = false := byte_ne s[k] 32 (by decide) (by assumption)
            have e9 : ((s[k].toNat : Int) == 9) = true := byte_eq s[k] 9 h
            clear h h1
            go_wp2
            go_roundw
            case rel => exact ⟨k + 1, by omega, by go_num, HN, trivial⟩
            case measure => simp [intOf]; omega
          · have n32 : ((s[k].toNat : Int) == 32) = false := byte_ne s[k] 32 (by decide) (by assumption)
            have n9 : ((s[k].toNat : Int) == 9) = false := byte_ne s[k] 9 (by decide) (by assumption)
            have e10 : ((s[k].toNat : Int) == 10) = true := byte_eq s[k] 10 h
            clear h h1 h2
            go_wp2
            go_roundw
            case rel => exact ⟨k + 1, by omega, by go_num, HN, trivial⟩
            case measure => simp [intOf]; omega
          · have n32 : ((s[k].toNat : Int) == 32) = false := byte_ne s[k] 32 (by decide) (by assumption)
            have n9 : ((s[k].toNat : Int) == 9) = false := byte_ne s[k] 9 (by decide) (by assumption)
            have n10 : ((s[k].toNat : Int) == 10) = false := byte_ne s[k] 10 (by decide) (by assumption)
            have e13 : ((s[k].toNat : Int) == 13) = true := byte_eq s[k] 13 h
            clear h h1 h2 h3
            go_wp2
            go_roundw
            case rel => exact ⟨k + 1, by omega, by go_num, HN, trivial⟩
            case measure => simp [intOf]; omega
        · have hEk : Hid (E = k) := Lib.hid (by rw [HK.out, HD.out]; simp only [gapN, if_neg hb, if_neg c35]; omega)
          have hb0 : blankB s[k] = false := by simpa using hb
          simp only [blankB, Bool.or_eq_false_iff, beq_eq_false_iff_ne] at hb0
          obtain ⟨⟨⟨h1, h2⟩, h3⟩, h4⟩ := hb0
          have n32 : ((s[k].toNat : Int) == 32) = false := byte_ne s[k] 32 (by decide) h1
          have n9 : ((s[k].toNat : Int) == 9) = false := byte_ne s[k] 9 (by decide) h2
          have n10 : ((s[k].toNat : Int) == 10) = false := byte_ne s[k] 10 (by decide) h3
          have n13 : ((s[k].toNat : Int) == 13) = false := byte_ne s[k] 13 (by decide) h4
          clear hb h1 h2 h3 h4 c35
          go_wp2
          go_ret
          exact ⟨by rw [hEk.out]; rfl, rfl⟩
    · have hI : ¬ ((k : Int) < (s.size : Int)) := by omega
      have hEk : Hid (E = k) := Lib.hid (by rw [HK.out, drop_end s k (by omega)]; simp [gapN])
      go_wp2
      go_ret
      exact ⟨by rw [hEk.out]; rfl, rfl⟩

end Go.Proofs.YtfiljgkcipnghaaGreatDoor.X
set_option linter.unusedVariables false
set_option linter.unusedSimpArgs false
namespace Go.Proofs.YtfiljgkcipnghaaGreatDoor.X
open Go.RowKit
/-- A fault's code and place; 0 and 0 of none. -/
def codeOf : Option (Int × Nat) → Int
  | none => 0
  | some f => f.1
def placeOf : Option (Int × Nat) → Int
  | none => 0
  | some f => (f.2 : Nat)
/-- What Prefix and Scan of the reference answer. -/
def PreAns (w : World) (r : List Tk × Option (Int × Nat)) (e : Ending) (w' : World) : Prop :=
  ∃ v, TokSl w' w.heap.size v r.1 ∧ Below w.heap.size w w' ∧ e = .returned (.tuple #[v, .int .i64 (codeOf r.2), .int .i64 (placeOf r.2)])
set_option maxHeartbeats 8000000 in
set_option maxRecDepth 100000 in
theorem refPrefix_any (s : ByteArray) (w : World) (hs : s.size ≤ 9223372036854775807) :
    Calls Tryz.prog 51 #[.string s] w (PreAns w (prefixL s.data.toList)) := by
  by_cases hlong : 4096 < s.size
  · have hI : (4096 : Int) < (s.size : Int) := by omega
    have hR : prefixL s.data.toList = ([], some (110, 4096)) := by unfold prefixL; rw [size_len, if_pos hlong]
    rw [hR]
    clear hR hlong
    go_enter Tryz.func51, Tryz.ntmps51
    go_wp2
    go_ret3
    exact ⟨_, World.ownsRow_nil _ _ _ _, Below.refl _ _, rfl⟩
  · have hI : ¬ ((4096 : Int) < (s.size : Int)) := by omega
    obtain ⟨R, hR⟩ : ∃ R, R = scanN s.data.toList (s.data.toList.length + 1) 0 := ⟨_, rfl⟩
    have hR2 : prefixL s.data.toList = R := by unfold prefixL; rw [size_len, if_neg hlong, hR, size_len]
    rw [hR2]
    have HR := Lib.hid hR
    have hs2 : s.size ≤ 4096 := by omega
    clear hR hR2 hlong hs
    go_enter Tryz.func51, Tryz.ntmps51
    go_wp2
    go_loopw [5, 6] (fun v i wr => ∃ (k m : Nat) (acc : List Tk), k ≤ s.size ∧ acc.length ≤ k ∧ i = .int .i64 k ∧ Hid (s.size + 1 ≤ m + k) ∧ Hid (R = (acc ++ (scanN s.data.toList m k).1, (scanN s.data.toList m k).2)) ∧ Hid (TokSl wr w.heap.size v acc) ∧ Hid (Below w.heap.size w wr)) (fun _ i _ => s.size - (intOf i).toNat)
    case atStart => exact ⟨0, s.size + 1, [], by omega, by simp, rfl, Lib.hid (by omega), Lib.hid (by rw [HR.out, size_len]; rfl), Lib.hid (by have := World.ownsRow_made (e := 73) (size := 5) w #[] 0 (Nat.le_refl _) (by simp [maxLen]) rfl; exact this), Lib.hid ((Below.refl _ _).alloc (Nat.le_refl _) _)⟩
    case round =>
      obtain ⟨k, m, acc, hk, ha, rfl, HM, HK, HO, HB⟩ := hrel
      clear HR
      have hbs := HB.out.size
      have hsk : skipN s.data.toList k ≤ s.size := by have := skipN_le (l := s.data.toList) (i := k) (by rw [size_len]; exact hk); rwa [size_len] at this
      have hskg := skipN_ge s.data.toList k
      have GC := Lib.hid (fun W => refGap_any s k W (by omega) hk)
      have TC := Lib.hid (fun W => refTok_any s (skipN s.data.toList k) W (by omega) hsk)
      obtain ⟨m, rfl⟩ : ∃ m', m = m' + 1 := ⟨m - 1, by have := HM.out; omega⟩
      obtain ⟨r, hr⟩ : ∃ r, r = tokAt s.data.toList (skipN s.data.toList k) := ⟨_, rfl⟩
      rw [← hr] at TC
      obtain ⟨i, hi⟩ : ∃ i, i = skipN s.data.toList k := ⟨_, rfl⟩
      have GC2 : Hid (∀ W, Calls Tryz.prog 74 #[.string s, .int .i64 k] W fun e w' => e = .returned (.int .i64 i) ∧ W = w') := Lib.hid (by rw [hi]; exact GC.out)
      rw [← hi] at hsk hskg TC hr
      clear GC
      cases r with
      | error f =>
        obtain ⟨c, a⟩ := f
        have hc : (c != 0) = true := by simpa using tokAt_code hr.symm
        have HE : Hid (R = (acc, some (c, a))) := Lib.hid (by rw [HK.out, scanN_err (f := (c, a)) (by rw [← hi]; exact hr.symm)]; simp)
        clear hi hr
        go_wp2_with (first | (go_at_call 74; refine (GC2.out _).mono ?_; rintro e w3 ⟨rfl, rfl⟩) | (go_at_call 75; refine (TC.out _).mono ?_; rintro e w4 ⟨hB4, rfl⟩; have HB4 := Lib.hid hB4; have hz4 := hB4.size; clear hB4))
        (try simp only [Exit.inBlock, Exit.then]); go_ret3
        rw [HE.out]
        exact ⟨_, ((HO.out.kept (row := none) ⟨HB4.out.os, HB4.out.tape, HB4.out.output, HB4.out.size, fun i hi _ => HB4.out.block i hi⟩ (by cases Value.ownBlock _ <;> simp)).alloc _), (HB.out.trans (HB4.out.mono hbs)).alloc (by omega) _, rfl⟩
      | ok t =>
        have HN : Hid (∀ w4 : World, wr.heap.size ≤ w4.heap.size → some w4.heap.size ≠ Value.ownBlock _) := Lib.hid (fun w4 h4 e => by have := (HO.out.lt _ e.symm).2; omega)
        by_cases hk0 : t.kind = 0
        · have e0 : ((t.kind : Int) == 0) = true := by simpa using hk0
          have HE : Hid (R = (acc ++ [t], none)) := Lib.hid (by rw [HK.out, scanN_end (by rw [← hi]; exact hr.symm) hk0])
          clear hk0 hi hr
          go_wp2_with (first | (go_at_call 74; refine (GC2.out _).mono ?_; rintro e w3 ⟨rfl, rfl⟩) | (go_at_call 75; refine (TC.out _).mono ?_; rintro e w4 ⟨hB4, he⟩; simp only [tokV, tokCells] at he; subst he; have HB4 := Lib.hid hB4; have hz4 := hB4.size; have HO4 := Lib.hid ((HO.out.kept (row := none) ⟨hB4.os, hB4.tape, hB4.output, hB4.size, fun i hi _ => hB4.block i hi⟩ (by cases Value.ownBlock _ <;> simp)).alloc (.cells (tokCells t) 73)); have HBB := Lib.hid ((HB.out.trans (hB4.mono hbs)).alloc (by omega) (.cells (tokCells t) 73)); have hne := HN.out w4 hz4; clear hB4) | (at_builtin; go_loud (refine app_tok w.heap.size rfl (.tmp 29) (.tmp 31) rfl _ acc t _ rfl rfl (by simp [Act.eval]) HO4.out HBB.out (by simp; omega) (by omega) ?_; intro v1 w1 hown hb1 hz1 hk1 _; have tz1 := (hk1 w4.heap.size (by simp) hne).trans (Go.heap_alloc_new w4 _); have y0 : w1.cell? ⟨w4.heap.size, 0, none⟩ = some (.int .i64 t.kind) := (Lib.cell_of_heap tz1 _).trans rfl; have y4 : w1.cell? ⟨w4.heap.size, 4, none⟩ = some (.int .i64 t.end_) := (Lib.cell_of_heap tz1 _).trans rfl; have HO1 := Lib.hid hown; have HB1 := Lib.hid hb1; clear hown hb1 hk1 tz1)))
          (try simp only [Exit.inBlock, Exit.then]); go_ret3
          rw [HE.out]
          exact ⟨_, HO1.out, HB1.out, rfl⟩
        · have e0 : ((t.kind : Int) == 0) = false := by simpa using hk0
          have hb := tok_cases (i := i) (by rw [size_len]; exact hsk) hr.symm hk0
          have HE : Hid (R = (acc ++ [t] ++ (scanN s.data.toList m t.end_).1, (scanN s.data.toList m t.end_).2)) := Lib.hid (by rw [HK.out, scanN_ok (by rw [← hi]; exact hr.symm) hk0]; simp)
          have hb2 := hb.2.1
          have hb3 := hb.2.2
          rw [size_len] at hb3
          clear hk0 hi hr hb
          go_wp2_with (first | (go_at_call 74; refine (GC2.out _).mono ?_; rintro e w3 ⟨rfl, rfl⟩) | (go_at_call 75; refine (TC.out _).mono ?_; rintro e w4 ⟨hB4, he⟩; simp only [tokV, tokCells] at he; subst he; have HB4 := Lib.hid hB4; have hz4 := hB4.size; have HO4 := Lib.hid ((HO.out.kept (row := none) ⟨hB4.os, hB4.tape, hB4.output, hB4.size, fun i hi _ => hB4.block i hi⟩ (by cases Value.ownBlock _ <;> simp)).alloc (.cells (tokCells t) 73)); have HBB := Lib.hid ((HB.out.trans (hB4.mono hbs)).alloc (by omega) (.cells (tokCells t) 73)); have hne := HN.out w4 hz4; clear hB4) | (at_builtin; go_loud (refine app_tok w.heap.size rfl (.tmp 29) (.tmp 31) rfl _ acc t _ rfl rfl (by simp [Act.eval]) HO4.out HBB.out (by simp; omega) (by omega) ?_; intro v1 w1 hown hb1 hz1 hk1 _; have tz1 := (hk1 w4.heap.size (by simp) hne).trans (Go.heap_alloc_new w4 _); have y0 : w1.cell? ⟨w4.heap.size, 0, none⟩ = some (.int .i64 t.kind) := (Lib.cell_of_heap tz1 _).trans rfl; have y4 : w1.cell? ⟨w4.heap.size, 4, none⟩ = some (.int .i64 t.end_) := (Lib.cell_of_heap tz1 _).trans rfl; have HO1 := Lib.hid hown; have HB1 := Lib.hid hb1; clear hown hb1 hk1 tz1)))
          go_roundw
          case rel => exact ⟨t.end_, m, acc ++ [t], hb3, by simp; omega, rfl, Lib.hid (by have := HM.out; omega), HE, HO1, HB1⟩
          case measure => simp [intOf]; omega
theorem refScan_any (s : ByteArray) (w : World) (hs : s.size ≤ 9223372036854775807) :
    Calls Tryz.prog 37 #[.string s] w (PreAns w (scanL s.data.toList)) := by
  have PC := Lib.hid (fun W => refPrefix_any s W hs)
  obtain ⟨R, hR⟩ : ∃ R, R = prefixL s.data.toList := ⟨_, rfl⟩
  unfold scanL
  rw [← hR] at PC ⊢
  obtain ⟨ts, f⟩ := R
  cases f with
  | none =>
    simp only [Option.isSome_none, Bool.false_eq_true, if_false]
    clear hR
    go_enter Tryz.func37, Tryz.ntmps37
    go_wp2_with (go_at_call 51; refine (PC.out _).mono ?_; rintro e w2 ⟨v, hO, hB, rfl⟩; have HO := Lib.hid hO; have HB := Lib.hid hB; clear hO hB; simp only [codeOf, placeOf])
    go_ret3
    exact ⟨_, HO.out, HB.out, rfl⟩
  | some f =>
    obtain ⟨c, a⟩ := f
    simp only [Option.isSome_some, if_true]
    have hc : (c != 0) = true := by simpa using prefix_code hR.symm
    clear hR
    go_enter Tryz.func37, Tryz.ntmps37
    go_wp2_with (go_at_call 51; refine (PC.out _).mono ?_; rintro e w2 ⟨v, hO, hB, rfl⟩; have HO := Lib.hid hO; have HB := Lib.hid hB; clear hO hB; simp only [codeOf, placeOf])
    go_ret3
    exact ⟨_, World.ownsRow_nil _ _ _ _, HB.out, rfl⟩

end Go.Proofs.YtfiljgkcipnghaaGreatDoor.X
