/-
  The walks of Quote and of the reference's Quote.
-/
import Derived.Test.YthcdmnndhjbbfaaDoorLexT
import Derived.Deep.RegionLaw
import Derived.Laws.BitsLemmas
set_option linter.unusedVariables false
set_option linter.unusedSimpArgs false
namespace Go.Proofs.YthcdmnndhjbbfaaDoor.X
open Go.RowKit
def hexT (x : UInt8) : UInt8 := if x < 10 then 48 + x else 87 + x
/-- What a byte is written as in a text in quotes. -/
def qB (c : UInt8) : Bs :=
  if c = 34 ∨ c = 92 then [92, c] else if c = 10 then [92, 110] else if c = 9 then [92, 116] else if c = 13 then [92, 114]
  else if c < 32 ∨ 126 < c then [92, 120, hexT (c / 16), hexT (c % 16)] else [c]
def qAll : Bs → Bs
  | [] => []
  | c :: l => qB c ++ qAll l
def quoteL (l : Bs) : Bs := 34 :: (qAll l ++ [34])
def hexS : ByteArray := ⟨#[48, 49, 50, 51, 52, 53, 54, 55, 56, 57, 97, 98, 99, 100, 101, 102]⟩
theorem hexS_at : ∀ (n : Fin 16) (h : n.val < hexS.size), hexS[n.val]'h = hexT n.val.toUInt8 := by decide +kernel
theorem hexS_get (y : UInt8) (hy : y.toNat < 16) (n : Int) (hn : n = (y.toNat : Int)) (h : n.toNat < hexS.size) : hexS[n.toNat]'h = hexT y := by
  subst hn
  have := hexS_at ⟨y.toNat, hy⟩ h
  simpa using this
theorem u8_quo (x : UInt8) : ((x / 16).toNat : Int) = (x.toNat : Int) / 16 := by
  have e : (x / 16).toNat = x.toNat / 16 := by simp
  rw [e]; omega
theorem u8_rem (x : UInt8) : ((x % 16).toNat : Int) = (x.toNat : Int) % 16 := by
  have e : (x % 16).toNat = x.toNat % 16 := by simp
  rw [e]; omega
/-- The same as a step of a region that draws its order. -/
theorem app_bytes_step {ops : Array Oper} {o : Oper} {a : Act} {Q : Exit → Act → World → Prop} {K : Act → World → Prop} {w0 W : World} (base : Nat) (hw : Region.wanted o (yielded ops a.tmps) = true) (s x : Operand)
    (ho : o.op = .call { callee := .builtin .append, args := #[s, x], argTypes := #[57, 57] })
    (v : Value) (xs ys : Bs) (cs : Array Value) (m : Nat) (hcs : cs.toList = Lib.byteCells ys) (hm : ys.length = m) (hs : a.eval s = v) (hx : a.eval x = .slice (some ⟨W.heap.size, 0, none⟩) m m)
    (HO : W.ownsRow base 5 1 v xs.length (Lib.byteCells xs)) (HB : Below base w0 W) (hbase : base ≤ W.heap.size) (hl : xs.length + m ≤ 140737488355328)
    (h : ∀ v1 w1, w1.ownsRow base 5 1 v1 (xs ++ ys).length (Lib.byteCells (xs ++ ys)) → Below base w0 w1 → K (a.put o.dst v1) w1) :
    if Region.wanted o (yielded ops a.tmps) = true then Oper.wp Tryd.prog o a (W.alloc (.cells cs 5)) K Q else K (a.put o.dst undef) (W.alloc (.cells cs 5)) := by
  obtain ⟨i0, hi, hz0, hz1, hz2⟩ := info_parts infoU8
  subst hm
  rw [if_pos hw]
  obtain ⟨v1, w1, hr, hown, hg, _, hat⟩ := run_append_own_at (P := Tryd.prog) (W.alloc (.cells cs 5)) base 57 o.type 5 i0 (.int .u8 0) 1 1 Tryd.underlying57 hi hz0 hz1 hz2 rfl (by omega) v xs.length _ (HO.alloc _) ⟨W.heap.size, 0, none⟩ ys.length ys.length (Lib.byteCells ys) (by simp [Lib.byteCells])
    (fun j u hu => World.news_of_block (cs := cs) (t := 5) (fr := (0, 0)) (heap_alloc_new W _) j u (by rw [hcs]; exact hu)) (by simp [Lib.byteCells, Value.oneCell']) (by simp only [maxLen]; omega) (by omega) (by simp; omega)
  unfold Oper.wp execOp
  simp only [ho, resolve, invoke, builtin, Sem.run_bind, Sem.run_pure, Result.andThen_ok, List.map_toArray, List.map_cons, List.map_nil, hs, hx, hr]
  refine h v1 w1 ?_ ((HB.alloc hbase _).grown hg (by simp; omega) (own_base HO))
  simpa [Lib.byteCells] using hown
theorem own_one (w : World) : (w.alloc (.cells #[.int .u8 34] 5)).ownsRow w.heap.size 5 1 (.slice (some ⟨w.heap.size, 0, none⟩) 1 1) [34].length (Lib.byteCells [34]) := by
  have h := World.ownsRow_lit (base := w.heap.size) (e := 5) (size := 1) w #[.int .u8 34] 1 (Nat.le_refl _) (by simp [maxLen]) (by simp)
  simpa [Lib.byteCells] using h

set_option maxHeartbeats 8000000 in
set_option maxRecDepth 100000 in
theorem quote_any (s : ByteArray) (w : World) (hs : s.size ≤ 1000000000000) :
    Calls Tryd.prog 12 #[.string s] w fun e w' => e = .returned (.string ⟨(quoteL s.data.toList).toArray⟩) ∧ Below w.heap.size w w' := by
  obtain ⟨R, hR⟩ : ∃ R, R = 34 :: qAll s.data.toList := ⟨_, rfl⟩
  have hQ : quoteL s.data.toList = R ++ [34] := by rw [hR]; rfl
  rw [hQ]
  have HR := Lib.hid hR
  clear hR hQ
  go_enter Tryd.func12, Tryd.ntmps12
  go_wp2
  go_loopw [3, 4] (fun v j wr => ∃ (k : Nat) (acc : Bs), k ≤ s.size ∧ acc.length ≤ 4 * k + 1 ∧ j = .int .i64 k ∧ Hid (R = acc ++ qAll (s.data.toList.drop k)) ∧ Hid (wr.ownsRow w.heap.size 5 1 v acc.length (Lib.byteCells acc)) ∧ Hid (Below w.heap.size w wr)) (fun _ j _ => s.size - (intOf j).toNat)
  case atStart => exact ⟨0, [34], Nat.zero_le _, by simp, rfl, Lib.hid (by rw [HR.out]; simp), Lib.hid (own_one w), Lib.hid ((Below.refl _ _).alloc (Nat.le_refl _) _)⟩
  case round =>
    obtain ⟨k, acc, hk, ha, rfl, HK, HO, HB⟩ := hrel
    clear HR
    have hbs := HB.out.size
    by_cases hlt : k < s.size
    · have HD := Lib.hid (drop_at s k hlt)
      have hge : (0 : Int) ≤ (s[k].toNat : Int) := by omega
      have hbl : (s[k].toNat : Int) ≤ 255 := by have := s[k].toNat_lt; omega
      have HQ : Hid (R = acc ++ qB s[k] ++ qAll (s.data.toList.drop (k + 1))) := Lib.hid (by rw [HK.out, HD.out]; simp [qAll])
      by_cases c34 : s[k] = 34
      · have e34 : ((s[k].toNat : Int) == 34) = true := byte_eq s[k] 34 c34
        have hq : qB s[k] = [92, s[k]] := by simp [qB, c34]
        rw [hq] at HQ
        clear hq c34
        go_wp2_with (at_builtin; go_loud (refine app_bytes w.heap.size rfl (.tmp 27) (.tmp 29) rfl _ acc [92, s[k]] _ 2 rfl rfl rfl rfl HO.out HB.out (by omega) (by omega) ?_; intro v1 w4 hown hb4 _))
        go_roundw
        case rel => exact ⟨k + 1, acc ++ [92, s[k]], by omega, by simp; omega, by go_num, HQ, Lib.hid hown, Lib.hid hb4⟩
        case measure => simp [intOf]; omega
      have n34 : ((s[k].toNat : Int) == 34) = false := byte_ne s[k] 34 (by decide) c34
      by_cases c92 : s[k] = 92
      · have e92 : ((s[k].toNat : Int) == 92) = true := byte_eq s[k] 92 c92
        have hq : qB s[k] = [92, s[k]] := by simp [qB, c92]
        rw [hq] at HQ
        clear hq c34 c92
        go_wp2_with (at_builtin; go_loud (refine app_bytes w.heap.size rfl (.tmp 27) (.tmp 29) rfl _ acc [92, s[k]] _ 2 rfl rfl rfl rfl HO.out HB.out (by omega) (by omega) ?_; intro v1 w4 hown hb4 _))
        go_roundw
        case rel => exact ⟨k + 1, acc ++ [92, s[k]], by omega, by simp; omega, by go_num, HQ, Lib.hid hown, Lib.hid hb4⟩
        case measure => simp [intOf]; omega
      have n92 : ((s[k].toNat : Int) == 92) = false := byte_ne s[k] 92 (by decide) c92
      by_cases c10 : s[k] = 10
      · have e10 : ((s[k].toNat : Int) == 10) = true := byte_eq s[k] 10 c10
        have hq : qB s[k] = [92, 110] := by simp [qB, c10]
        rw [hq] at HQ
        clear hq c34 c92 c10
        go_wp2_with (at_builtin; go_loud (refine app_bytes w.heap.size rfl (.tmp 34) (.tmp 35) rfl _ acc [92, 110] _ 2 rfl rfl rfl rfl HO.out HB.out (by omega) (by omega) ?_; intro v1 w4 hown hb4 _))
        go_roundw
        case rel => exact ⟨k + 1, acc ++ [92, 110], by omega, by simp; omega, by go_num, HQ, Lib.hid hown, Lib.hid hb4⟩
        case measure => simp [intOf]; omega
      have n10 : ((s[k].toNat : Int) == 10) = false := byte_ne s[k] 10 (by decide) c10
      by_cases c9 : s[k] = 9
      · have e9 : ((s[k].toNat : Int) == 9) = true := byte_eq s[k] 9 c9
        have hq : qB s[k] = [92, 116] := by simp [qB, c9]
        rw [hq] at HQ
        clear hq c34 c92 c10 c9
        go_wp2_with (at_builtin; go_loud (refine app_bytes w.heap.size rfl (.tmp 40) (.tmp 41) rfl _ acc [92, 116] _ 2 rfl rfl rfl rfl HO.out HB.out (by omega) (by omega) ?_; intro v1 w4 hown hb4 _))
        go_roundw
        case rel => exact ⟨k + 1, acc ++ [92, 116], by omega, by simp; omega, by go_num, HQ, Lib.hid hown, Lib.hid hb4⟩
        case measure => simp [intOf]; omega
      have n9 : ((s[k].toNat : Int) == 9) = false := byte_ne s[k] 9 (by decide) c9
      by_cases c13 : s[k] = 13
      · have e13 : ((s[k].toNat : Int) == 13) = true := byte_eq s[k] 13 c13
        have hq : qB s[k] = [92, 114] := by simp [qB, c13]
        rw [hq] at HQ
        clear hq c34 c92 c10 c9 c13
        go_wp2_with (at_builtin; go_loud (refine app_bytes w.heap.size rfl (.tmp 46) (.tmp 47) rfl _ acc [92, 114] _ 2 rfl rfl rfl rfl HO.out HB.out (by omega) (by omega) ?_; intro v1 w4 hown hb4 _))
        go_roundw
        case rel => exact ⟨k + 1, acc ++ [92, 114], by omega, by simp; omega, by go_num, HQ, Lib.hid hown, Lib.hid hb4⟩
        case measure => simp [intOf]; omega
      have n13 : ((s[k].toNat : Int) == 13) = false := byte_ne s[k] 13 (by decide) c13
      by_cases c32 : s[k] < 32
      · have h32 : (s[k].toNat : Int) < 32 := by rw [UInt8.lt_iff_toNat_lt] at c32; simp at c32; omega
        have hq : qB s[k] = [92, 120, hexT (s[k] / 16), hexT (s[k] % 16)] := by simp [qB, c34, c92, c10, c9, c13, c32]
        rw [hq] at HQ
        clear hq c34 c92 c10 c9 c13 c32
        have b1 : (0 : Int) ≤ (s[k].toNat : Int) / 16 := by omega
        have b2 : (s[k].toNat : Int) / 16 < 16 := by omega
        have b3 : (0 : Int) ≤ (s[k].toNat : Int) % 16 := by omega
        have b4 : (s[k].toNat : Int) % 16 < 16 := by omega
        have q2 : bits .and .u8 (s[k].toNat : Int) 15 = (s[k].toNat : Int) % 16 := u8_and15 _ (by omega) (by omega)
        have H1 := Lib.hid (hexS_get (s[k] / 16) (by simp; omega) ((s[k].toNat : Int) / 16) (u8_quo _).symm)
        have H2 := Lib.hid (hexS_get (s[k] % 16) (by simp; omega) ((s[k].toNat : Int) % 16) (u8_rem _).symm)
        have hlen : acc.length + 4 ≤ 140737488355328 := by omega
        go_wp2_with fail
        go_region_law (refine app_bytes_step w.heap.size rfl (.tmp 56) (.tmp 63) rfl _ acc [92, 120, hexT (s[k] / 16), hexT (s[k] % 16)] _ 4 (by rw [← H1.out, ← H2.out]; rfl) rfl rfl rfl (HO.out.drew) (HB.out.drew) hbs hlen ?_; intro v1 w4 hown hb4)
        all_goals
          go_wp2_with fail
          go_roundw
          case rel => exact ⟨k + 1, acc ++ [92, 120, hexT (s[k] / 16), hexT (s[k] % 16)], by omega, by simp; omega, by go_num, HQ, Lib.hid hown, Lib.hid hb4⟩
          case measure => simp [intOf]; omega
      have h32 : ¬ ((s[k].toNat : Int) < 32) := by rw [UInt8.lt_iff_toNat_lt] at c32; simp at c32; omega
      by_cases c126 : 126 < s[k]
      · have h126 : (126 : Int) < (s[k].toNat : Int) := by rw [UInt8.lt_iff_toNat_lt] at c126; simp at c126; omega
        have hq : qB s[k] = [92, 120, hexT (s[k] / 16), hexT (s[k] % 16)] := by simp [qB, c34, c92, c10, c9, c13, c32, c126]
        rw [hq] at HQ
        clear hq c34 c92 c10 c9 c13 c32 c126
        have b1 : (0 : Int) ≤ (s[k].toNat : Int) / 16 := by omega
        have b2 : (s[k].toNat : Int) / 16 < 16 := by omega
        have b3 : (0 : Int) ≤ (s[k].toNat : Int) % 16 := by omega
        have b4 : (s[k].toNat : Int) % 16 < 16 := by omega
        have q2 : bits .and .u8 (s[k].toNat : Int) 15 = (s[k].toNat : Int) % 16 := u8_and15 _ (by omega) (by omega)
        have H1 := Lib.hid (hexS_get (s[k] / 16) (by simp; omega) ((s[k].toNat : Int) / 16) (u8_quo _).symm)
        have H2 := Lib.hid (hexS_get (s[k] % 16) (by simp; omega) ((s[k].toNat : Int) % 16) (u8_rem _).symm)
        have hlen : acc.length + 4 ≤ 140737488355328 := by omega
        go_wp2_with fail
        go_region_law (refine app_bytes_step w.heap.size rfl (.tmp 56) (.tmp 63) rfl _ acc [92, 120, hexT (s[k] / 16), hexT (s[k] % 16)] _ 4 (by rw [← H1.out, ← H2.out]; rfl) rfl rfl rfl (HO.out.drew) (HB.out.drew) hbs hlen ?_; intro v1 w4 hown hb4)
        all_goals
          go_wp2_with fail
          go_roundw
          case rel => exact ⟨k + 1, acc ++ [92, 120, hexT (s[k] / 16), hexT (s[k] % 16)], by omega, by simp; omega, by go_num, HQ, Lib.hid hown, Lib.hid hb4⟩
          case measure => simp [intOf]; omega
      have h126 : ¬ ((126 : Int) < (s[k].toNat : Int)) := by rw [UInt8.lt_iff_toNat_lt] at c126; simp at c126; omega
      have hq : qB s[k] = [s[k]] := by simp [qB, c34, c92, c10, c9, c13, c32, c126]
      rw [hq] at HQ
      clear hq c34 c92 c10 c9 c13 c32 c126
      go_wp2_with (at_builtin; go_loud (refine app_bytes w.heap.size rfl (.tmp 16) (.tmp 18) rfl _ acc [s[k]] _ 1 rfl rfl rfl rfl HO.out HB.out (by omega) (by omega) ?_; intro v1 w4 hown hb4 _))
      go_roundw
      case rel => exact ⟨k + 1, acc ++ [s[k]], by omega, by simp; omega, by go_num, HQ, Lib.hid hown, Lib.hid hb4⟩
      case measure => simp [intOf]; omega
    · have hI : ¬ ((k : Int) < (s.size : Int)) := by omega
      have HE : Hid (R = acc) := Lib.hid (by rw [HK.out, drop_end s k (by omega)]; simp [qAll])
      go_wp2_with (at_builtin; go_loud (refine app_bytes w.heap.size rfl (.tmp 65) (.tmp 66) rfl _ acc [34] _ 1 rfl rfl rfl rfl HO.out HB.out (by omega) (by omega) ?_; intro v1 w4 hown hb4 _; have hcv := conv_bytes hown))
      go_ret
      exact ⟨by rw [HE.out]; rfl, hb4⟩

set_option maxHeartbeats 8000000 in
set_option maxRecDepth 100000 in
theorem refQuote_any (s : ByteArray) (w : World) (hs : s.size ≤ 1000000000000) :
    Calls Tryd.prog 13 #[.string s] w fun e w' => e = .returned (.string ⟨(quoteL s.data.toList).toArray⟩) ∧ Below w.heap.size w w' := by
  obtain ⟨R, hR⟩ : ∃ R, R = 34 :: qAll s.data.toList := ⟨_, rfl⟩
  have hQ : quoteL s.data.toList = R ++ [34] := by rw [hR]; rfl
  rw [hQ]
  have HR := Lib.hid hR
  clear hR hQ
  go_enter Tryd.func13, Tryd.ntmps13
  go_wp2
  go_loopw [4, 5] (fun v j wr => ∃ (k : Nat) (acc : Bs), k ≤ s.size ∧ acc.length ≤ 4 * k + 1 ∧ j = .int .i64 k ∧ Hid (R = acc ++ qAll (s.data.toList.drop k)) ∧ Hid (wr.ownsRow w.heap.size 5 1 v acc.length (Lib.byteCells acc)) ∧ Hid (Below w.heap.size w wr)) (fun _ j _ => s.size - (intOf j).toNat)
  case atStart => exact ⟨0, [34], Nat.zero_le _, by simp, rfl, Lib.hid (by rw [HR.out]; simp), Lib.hid (own_one w), Lib.hid ((Below.refl _ _).alloc (Nat.le_refl _) _)⟩
  case round =>
    obtain ⟨k, acc, hk, ha, rfl, HK, HO, HB⟩ := hrel
    clear HR
    have hbs := HB.out.size
    by_cases hlt : k < s.size
    · have HD := Lib.hid (drop_at s k hlt)
      have hge : (0 : Int) ≤ (s[k].toNat : Int) := by omega
      have hbl : (s[k].toNat : Int) ≤ 255 := by have := s[k].toNat_lt; omega
      have HQ : Hid (R = acc ++ qB s[k] ++ qAll (s.data.toList.drop (k + 1))) := Lib.hid (by rw [HK.out, HD.out]; simp [qAll])
      by_cases c34 : s[k] = 34
      · have e34 : ((s[k].toNat : Int) == 34) = true := byte_eq s[k] 34 c34
        have hq : qB s[k] = [92, 34] := by simp [qB, c34]
        rw [hq] at HQ
        clear hq c34
        go_wp2_with (at_builtin; go_loud (refine app_bytes w.heap.size rfl (.tmp 31) (.tmp 32) rfl _ acc [92, 34] _ 2 rfl rfl rfl rfl HO.out HB.out (by omega) (by omega) ?_; intro v1 w4 hown hb4 _))
        go_roundw
        case rel => exact ⟨k + 1, acc ++ [92, 34], by omega, by simp; omega, by go_num, HQ, Lib.hid hown, Lib.hid hb4⟩
        case measure => simp [intOf]; omega
      have n34 : ((s[k].toNat : Int) == 34) = false := byte_ne s[k] 34 (by decide) c34
      by_cases c92 : s[k] = 92
      · have e92 : ((s[k].toNat : Int) == 92) = true := byte_eq s[k] 92 c92
        have hq : qB s[k] = [92, 92] := by simp [qB, c92]
        rw [hq] at HQ
        clear hq c34 c92
        go_wp2_with (at_builtin; go_loud (refine app_bytes w.heap.size rfl (.tmp 37) (.tmp 38) rfl _ acc [92, 92] _ 2 rfl rfl rfl rfl HO.out HB.out (by omega) (by omega) ?_; intro v1 w4 hown hb4 _))
        go_roundw
        case rel => exact ⟨k + 1, acc ++ [92, 92], by omega, by simp; omega, by go_num, HQ, Lib.hid hown, Lib.hid hb4⟩
        case measure => simp [intOf]; omega
      have n92 : ((s[k].toNat : Int) == 92) = false := byte_ne s[k] 92 (by decide) c92
      by_cases c10 : s[k] = 10
      · have e10 : ((s[k].toNat : Int) == 10) = true := byte_eq s[k] 10 c10
        have hq : qB s[k] = [92, 110] := by simp [qB, c10]
        rw [hq] at HQ
        clear hq c34 c92 c10
        go_wp2_with (at_builtin; go_loud (refine app_bytes w.heap.size rfl (.tmp 43) (.tmp 44) rfl _ acc [92, 110] _ 2 rfl rfl rfl rfl HO.out HB.out (by omega) (by omega) ?_; intro v1 w4 hown hb4 _))
        go_roundw
        case rel => exact ⟨k + 1, acc ++ [92, 110], by omega, by simp; omega, by go_num, HQ, Lib.hid hown, Lib.hid hb4⟩
        case measure => simp [intOf]; omega
      have n10 : ((s[k].toNat : Int) == 10) = false := byte_ne s[k] 10 (by decide) c10
      by_cases c9 : s[k] = 9
      · have e9 : ((s[k].toNat : Int) == 9) = true := byte_eq s[k] 9 c9
        have hq : qB s[k] = [92, 116] := by simp [qB, c9]
        rw [hq] at HQ
        clear hq c34 c92 c10 c9
        go_wp2_with (at_builtin; go_loud (refine app_bytes w.heap.size rfl (.tmp 49) (.tmp 50) rfl _ acc [92, 116] _ 2 rfl rfl rfl rfl HO.out HB.out (by omega) (by omega) ?_; intro v1 w4 hown hb4 _))
        go_roundw
        case rel => exact ⟨k + 1, acc ++ [92, 116], by omega, by simp; omega, by go_num, HQ, Lib.hid hown, Lib.hid hb4⟩
        case measure => simp [intOf]; omega
      have n9 : ((s[k].toNat : Int) == 9) = false := byte_ne s[k] 9 (by decide) c9
      by_cases c13 : s[k] = 13
      · have e13 : ((s[k].toNat : Int) == 13) = true := byte_eq s[k] 13 c13
        have hq : qB s[k] = [92, 114] := by simp [qB, c13]
        rw [hq] at HQ
        clear hq c34 c92 c10 c9 c13
        go_wp2_with (at_builtin; go_loud (refine app_bytes w.heap.size rfl (.tmp 55) (.tmp 56) rfl _ acc [92, 114] _ 2 rfl rfl rfl rfl HO.out HB.out (by omega) (by omega) ?_; intro v1 w4 hown hb4 _))
        go_roundw
        case rel => exact ⟨k + 1, acc ++ [92, 114], by omega, by simp; omega, by go_num, HQ, Lib.hid hown, Lib.hid hb4⟩
        case measure => simp [intOf]; omega
      have n13 : ((s[k].toNat : Int) == 13) = false := byte_ne s[k] 13 (by decide) c13
      by_cases c32 : s[k] < 32
      · have h32 : ¬ ((32 : Int) ≤ (s[k].toNat : Int)) := by rw [UInt8.lt_iff_toNat_lt] at c32; simp at c32; omega
        have hq : qB s[k] = [92, 120, hexT (s[k] / 16), hexT (s[k] % 16)] := by simp [qB, c34, c92, c10, c9, c13, c32]
        rw [hq] at HQ
        clear hq c34 c92 c10 c9 c13 c32
        have b1 : (0 : Int) ≤ (s[k].toNat : Int) / 16 := by omega
        have b2 : (s[k].toNat : Int) / 16 < 16 := by omega
        have b3 : (0 : Int) ≤ (s[k].toNat : Int) % 16 := by omega
        have b4 : (s[k].toNat : Int) % 16 < 16 := by omega
        have q1 : IntKind.u8.wrap ((s[k].toNat : Int) / 16) = (s[k].toNat : Int) / 16 := IntWalk.u8_in _ (by omega)
        have q2 : (s[k].toNat : Int).tmod 16 = (s[k].toNat : Int) % 16 := Int.tmod_eq_emod_of_nonneg (by omega)
        have H1 := Lib.hid (hexS_get (s[k] / 16) (by simp; omega) ((s[k].toNat : Int) / 16) (u8_quo _).symm)
        have H2 := Lib.hid (hexS_get (s[k] % 16) (by simp; omega) ((s[k].toNat : Int) % 16) (u8_rem _).symm)
        have hlen : acc.length + 4 ≤ 140737488355328 := by omega
        go_wp2_with fail
        go_region_law (refine app_bytes_step w.heap.size rfl (.tmp 17) (.tmp 26) rfl _ acc [92, 120, hexT (s[k] / 16), hexT (s[k] % 16)] _ 4 (by rw [← H1.out, ← H2.out]; rfl) rfl rfl rfl (HO.out.drew) (HB.out.drew) hbs hlen ?_; intro v1 w4 hown hb4)
        all_goals
          go_wp2_with fail
          go_roundw
          case rel => exact ⟨k + 1, acc ++ [92, 120, hexT (s[k] / 16), hexT (s[k] % 16)], by omega, by simp; omega, by go_num, HQ, Lib.hid hown, Lib.hid hb4⟩
          case measure => simp [intOf]; omega
      have h32 : (32 : Int) ≤ (s[k].toNat : Int) := by rw [UInt8.lt_iff_toNat_lt] at c32; simp at c32; omega
      by_cases c126 : 126 < s[k]
      · have h126 : ¬ ((s[k].toNat : Int) ≤ 126) := by rw [UInt8.lt_iff_toNat_lt] at c126; simp at c126; omega
        have hq : qB s[k] = [92, 120, hexT (s[k] / 16), hexT (s[k] % 16)] := by simp [qB, c34, c92, c10, c9, c13, c32, c126]
        rw [hq] at HQ
        clear hq c34 c92 c10 c9 c13 c32 c126
        have b1 : (0 : Int) ≤ (s[k].toNat : Int) / 16 := by omega
        have b2 : (s[k].toNat : Int) / 16 < 16 := by omega
        have b3 : (0 : Int) ≤ (s[k].toNat : Int) % 16 := by omega
        have b4 : (s[k].toNat : Int) % 16 < 16 := by omega
        have q1 : IntKind.u8.wrap ((s[k].toNat : Int) / 16) = (s[k].toNat : Int) / 16 := IntWalk.u8_in _ (by omega)
        have q2 : (s[k].toNat : Int).tmod 16 = (s[k].toNat : Int) % 16 := Int.tmod_eq_emod_of_nonneg (by omega)
        have H1 := Lib.hid (hexS_get (s[k] / 16) (by simp; omega) ((s[k].toNat : Int) / 16) (u8_quo _).symm)
        have H2 := Lib.hid (hexS_get (s[k] % 16) (by simp; omega) ((s[k].toNat : Int) % 16) (u8_rem _).symm)
        have hlen : acc.length + 4 ≤ 140737488355328 := by omega
        go_wp2_with fail
        go_region_law (refine app_bytes_step w.heap.size rfl (.tmp 17) (.tmp 26) rfl _ acc [92, 120, hexT (s[k] / 16), hexT (s[k] % 16)] _ 4 (by rw [← H1.out, ← H2.out]; rfl) rfl rfl rfl (HO.out.drew) (HB.out.drew) hbs hlen ?_; intro v1 w4 hown hb4)
        all_goals
          go_wp2_with fail
          go_roundw
          case rel => exact ⟨k + 1, acc ++ [92, 120, hexT (s[k] / 16), hexT (s[k] % 16)], by omega, by simp; omega, by go_num, HQ, Lib.hid hown, Lib.hid hb4⟩
          case measure => simp [intOf]; omega
      have h126 : (s[k].toNat : Int) ≤ 126 := by rw [UInt8.lt_iff_toNat_lt] at c126; simp at c126; omega
      have hq : qB s[k] = [s[k]] := by simp [qB, c34, c92, c10, c9, c13, c32, c126]
      rw [hq] at HQ
      clear hq c34 c92 c10 c9 c13 c32 c126
      go_wp2_with (at_builtin; go_loud (refine app_bytes w.heap.size rfl (.tmp 65) (.tmp 67) rfl _ acc [s[k]] _ 1 rfl rfl rfl rfl HO.out HB.out (by omega) (by omega) ?_; intro v1 w4 hown hb4 _))
      go_roundw
      case rel => exact ⟨k + 1, acc ++ [s[k]], by omega, by simp; omega, by go_num, HQ, Lib.hid hown, Lib.hid hb4⟩
      case measure => simp [intOf]; omega
    · have hI : ¬ ((k : Int) < (s.size : Int)) := by omega
      have HE : Hid (R = acc) := Lib.hid (by rw [HK.out, drop_end s k (by omega)]; simp [qAll])
      go_wp2_with (at_builtin; go_loud (refine app_bytes w.heap.size rfl (.tmp 69) (.tmp 70) rfl _ acc [34] _ 1 rfl rfl rfl rfl HO.out HB.out (by omega) (by omega) ?_; intro v1 w4 hown hb4 _; have hcv := conv_bytes hown))
      go_ret
      exact ⟨by rw [HE.out]; rfl, hb4⟩

end Go.Proofs.YthcdmnndhjbbfaaDoor.X
