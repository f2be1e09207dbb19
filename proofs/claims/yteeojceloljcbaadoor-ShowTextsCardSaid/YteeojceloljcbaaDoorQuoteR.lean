/-
  The document's Quote: walked.
-/
import Derived.Test.YteeojceloljcbaaDoorBuilder
import Derived.Test.YteeojceloljcbaaDoorQuoteL
import Derived.Maps.AppendAt
import Derived.Deep.AppendLies
import Derived.Deep.RegionLaw
set_option linter.unusedVariables false
set_option linter.unusedSimpArgs false
namespace Go.Proofs.YteeojceloljcbaaDoor.H
open Go.RowKit Go.Proofs.YteeojceloljcbaaDoorW.PrintWords Go.Proofs.YteeojceloljcbaaDoorW.PrintLast Go.Proofs.YteeojceloljcbaaDoor.P

/-- append of some bytes that stand in the last block. -/
theorem app_bytes {ops : Array Oper} {rest : List Oper} {o : Oper} {a : Act} {Q : Exit → Act → World → Prop} {w0 W : World} (base : Nat) (hgd : o.guard = none) (s x : Operand)
    (ho : o.op = .call { callee := .builtin .append, args := #[s, x], argTypes := #[61, 61] })
    (v : Value) (xs ys : Bs) (cs : Array Value) (m : Nat) (hcs : cs.toList = Lib.byteCells ys) (hm : ys.length = m) (hs : a.eval s = v) (hx : a.eval x = .slice (some ⟨W.heap.size, 0, none⟩) m m)
    (HO : W.ownsRow base 5 1 v xs.length (Lib.byteCells xs)) (HB : Below base w0 W) (hbase : base ≤ W.heap.size) (hl : xs.length + m ≤ 140737488355328)
    (h : ∀ v1 w1, w1.ownsRow base 5 1 v1 (xs ++ ys).length (Lib.byteCells (xs ++ ys)) → Below base w0 w1 → wpList Tryd.prog ops Q rest (a.put o.dst v1) w1) :
    wpList Tryd.prog ops Q (o :: rest) a (W.alloc (.cells cs 5)) := by
  obtain ⟨i0, hi, hz0, hz1, hz2⟩ := info_parts infoU8
  subst hm
  refine wpList_append_own_at (W.alloc (.cells cs 5)) hgd s x 61 ho base 5 i0 (.int .u8 0) 1 1 Tryd.underlying61 hi hz0 hz1 hz2 rfl (by omega) v xs.length _ hs (HO.alloc _) ⟨W.heap.size, 0, none⟩ ys.length ys.length (Lib.byteCells ys) hx (by simp [Lib.byteCells])
    (fun j u hu => World.news_of_block (cs := cs) (t := 5) (fr := (0, 0)) (heap_alloc_new W _) j u (by rw [hcs]; exact hu)) (by simp [Lib.byteCells, Value.oneCell']) (by simp only [maxLen]; omega) (by omega) (by simp; omega) ?_
  intro v1 w1 hown hg _ hat
  refine h v1 w1 ?_ ((HB.alloc hbase _).grown hg (by simp; omega) (own_base HO))
  simpa [Lib.byteCells] using hown
/-- The same as a step of a region that draws its order. -/
theorem app_bytes_step {ops : Array Oper} {o : Oper} {a : Act} {Q : Exit → Act → World → Prop} {K : Act → World → Prop} {w0 W : World} (base : Nat) (hw : Region.wanted o (yielded ops a.tmps) = true) (s x : Operand)
    (ho : o.op = .call { callee := .builtin .append, args := #[s, x], argTypes := #[61, 61] })
    (v : Value) (xs ys : Bs) (cs : Array Value) (m : Nat) (hcs : cs.toList = Lib.byteCells ys) (hm : ys.length = m) (hs : a.eval s = v) (hx : a.eval x = .slice (some ⟨W.heap.size, 0, none⟩) m m)
    (HO : W.ownsRow base 5 1 v xs.length (Lib.byteCells xs)) (HB : Below base w0 W) (hbase : base ≤ W.heap.size) (hl : xs.length + m ≤ 140737488355328)
    (h : ∀ v1 w1, w1.ownsRow base 5 1 v1 (xs ++ ys).length (Lib.byteCells (xs ++ ys)) → Below base w0 w1 → K (a.put o.dst v1) w1) :
    if Region.wanted o (yielded ops a.tmps) = true then Oper.wp Tryd.prog o a (W.alloc (.cells cs 5)) K Q else K (a.put o.dst undef) (W.alloc (.cells cs 5)) := by
  obtain ⟨i0, hi, hz0, hz1, hz2⟩ := info_parts infoU8
  subst hm
  rw [if_pos hw]
  obtain ⟨v1, w1, hr, hown, hg, _, hat⟩ := run_append_own_at (P := Tryd.prog) (W.alloc (.cells cs 5)) base 61 o.type 5 i0 (.int .u8 0) 1 1 Tryd.underlying61 hi hz0 hz1 hz2 rfl (by omega) v xs.length _ (HO.alloc _) ⟨W.heap.size, 0, none⟩ ys.length ys.length (Lib.byteCells ys) (by simp [Lib.byteCells])
    (fun j u hu => World.news_of_block (cs := cs) (t := 5) (fr := (0, 0)) (heap_alloc_new W _) j u (by rw [hcs]; exact hu)) (by simp [Lib.byteCells, Value.oneCell']) (by simp only [maxLen]; omega) (by omega) (by simp; omega)
  unfold Oper.wp execOp
  simp only [ho, resolve, invoke, builtin, Sem.run_bind, Sem.run_pure, Result.andThen_ok, List.map_toArray, List.map_cons, List.map_nil, hs, hx, hr]
  refine h v1 w1 ?_ ((HB.alloc hbase _).grown hg (by simp; omega) (own_base HO))
  simpa [Lib.byteCells] using hown
theorem byteCells_nums (l : Bs) : Lib.byteCells l = nums .u8 (nums8 l) := by simp [Lib.byteCells, nums, nums8]
theorem conv_bytes {w : World} {base : Nat} {v : Value} {l : Bs} (h : w.ownsRow base 5 1 v l.length (Lib.byteCells l)) : (convert 61 9 v).run Tryd.prog w = .ok (.string ⟨l.toArray⟩) w := by
  rw [byteCells_nums] at h
  have := own_string Tryd.underlying61 Tryd.underlying5 Tryd.underlying9 h
  rwa [strOfNums_nums8] at this

/-- What stands there when k bytes are done. -/
def qpre (s : ByteArray) (k : Nat) : Bs := 34 :: (s.data.toList.take k).flatMap qbyte
theorem qpre_succ (s : ByteArray) (k : Nat) (h : k < s.size) : qpre s (k + 1) = qpre s k ++ qbyte s[k] := by
  unfold qpre
  rw [List.take_succ_eq_append_getElem (by simpa using h), List.flatMap_append]
  simp
  rfl
theorem qpre_len (s : ByteArray) (k : Nat) : (qpre s k).length ≤ 4 * k + 1 := by
  unfold qpre
  have : ∀ l : Bs, (l.flatMap qbyte).length ≤ 4 * l.length := by
    intro l
    induction l with
    | nil => simp
    | cons a l ih => have := qbyte_len a; simp only [List.flatMap_cons, List.length_append, List.length_cons]; omega
  have h := this (s.data.toList.take k)
  have h2 : (s.data.toList.take k).length ≤ k := List.length_take_le _ _
  simp only [List.length_cons]; omega

theorem hexS_at : ∀ (n : Fin 16) (h : n.val < hexS.size), hexS[n.val]'h = hexT n.val.toUInt8 := by decide +kernel
theorem hexS_get (y : UInt8) (hy : y.toNat < 16) (n : Int) (hn : n = (y.toNat : Int)) (h : n.toNat < hexS.size) : hexS[n.toNat]'h = hexT y := by
  subst hn
  have := hexS_at ⟨y.toNat, hy⟩ h
  simpa using this
theorem u8_quo (x : UInt8) : ((x / 16).toNat : Int) = (x.toNat : Int) / 16 := by
  have e : (x / 16).toNat = x.toNat / 16 := by simp
  rw [e]; omega
theorem u8_rem (x : UInt8) : ((x % 16).toNat : Int) = (x.toNat : Int) % 16 := by
  have e : (x % 16).toNat = x.toNat % 16 := by simp
  rw [e]; omega

set_option maxHeartbeats 4000000 in
set_option maxRecDepth 100000 in
theorem refQuote_any (s : ByteArray) (w : World) (hs : s.size ≤ 2000000) :
    Calls Tryd.prog 42 #[.string s] w fun e w' => e = .returned (.string ⟨(quoteT s).toArray⟩) ∧ Below w.heap.size w w' := by
  go_enter Tryd.func42, Tryd.ntmps42
  go_wp2
  go_loopw [4, 5] (fun v i wr => ∃ k : Nat, k ≤ s.size ∧ i = .int .i64 k ∧ Hid (wr.ownsRow w.heap.size 5 1 v (qpre s k).length (Lib.byteCells (qpre s k))) ∧ Hid (Below w.heap.size w wr)) (fun _ i _ => s.size - (intOf i).toNat)
  case atStart => exact ⟨0, Nat.zero_le _, rfl, Lib.hid (by
      have h := World.ownsRow_lit (base := w.heap.size) (e := 5) (size := 1) w #[.int .u8 34] 1 (Nat.le_refl _) (by simp [maxLen]) (by simp)
      simpa [qpre, Lib.byteCells] using h), Lib.hid ((Below.refl _ _).alloc (Nat.le_refl _) _)⟩
  case round =>
    obtain ⟨k, hk, rfl, HO, HB⟩ := hrel
    have hq := qpre_len s k
    have hbs := HB.out.size
    by_cases hlt : k < s.size
    · have HQ := Lib.hid (qpre_succ s k hlt)
      by_cases c34 : s[k] = 34
      · have HX : Hid (qbyte s[k] = [92, 34]) := Lib.hid (by rw [c34]; rfl)
        have e34 : ((s[k].toNat : Int) == 34) = true := by rw [c34]; rfl
        clear c34
        go_wp2_with (at_builtin; refine app_bytes w.heap.size rfl (.tmp 31) (.tmp 32) rfl _ (qpre s k) [92, 34] _ 2 rfl rfl rfl rfl HO.out HB.out hbs (by omega) ?_; intro v1 w1 hown hb1)
        go_roundw
        case rel => exact ⟨k + 1, by omega, by go_num, Lib.hid (by rw [HQ.out, HX.out]; exact hown), Lib.hid hb1⟩
        case measure => simp [intOf]; omega
      have n34 : ((s[k].toNat : Int) == 34) = false := by rw [beq_eq_false_iff_ne]; intro h; exact c34 ((u8_eq _ 34 (by decide)).1 h)
      by_cases c92 : s[k] = 92
      · have HX : Hid (qbyte s[k] = [92, 92]) := Lib.hid (by rw [c92]; rfl)
        have e92 : ((s[k].toNat : Int) == 92) = true := by rw [c92]; rfl
        clear c34 c92
        go_wp2_with (at_builtin; refine app_bytes w.heap.size rfl (.tmp 37) (.tmp 38) rfl _ (qpre s k) [92, 92] _ 2 rfl rfl rfl rfl HO.out HB.out hbs (by omega) ?_; intro v1 w1 hown hb1)
        go_roundw
        case rel => exact ⟨k + 1, by omega, by go_num, Lib.hid (by rw [HQ.out, HX.out]; exact hown), Lib.hid hb1⟩
        case measure => simp [intOf]; omega
      have n92 : ((s[k].toNat : Int) == 92) = false := by rw [beq_eq_false_iff_ne]; intro h; exact c92 ((u8_eq _ 92 (by decide)).1 h)
      by_cases c10 : s[k] = 10
      · have HX : Hid (qbyte s[k] = [92, 110]) := Lib.hid (by rw [c10]; rfl)
        have e10 : ((s[k].toNat : Int) == 10) = true := by rw [c10]; rfl
        clear c34 c92 c10
        go_wp2_with (at_builtin; refine app_bytes w.heap.size rfl (.tmp 43) (.tmp 44) rfl _ (qpre s k) [92, 110] _ 2 rfl rfl rfl rfl HO.out HB.out hbs (by omega) ?_; intro v1 w1 hown hb1)
        go_roundw
        case rel => exact ⟨k + 1, by omega, by go_num, Lib.hid (by rw [HQ.out, HX.out]; exact hown), Lib.hid hb1⟩
        case measure => simp [intOf]; omega
      have n10 : ((s[k].toNat : Int) == 10) = false := by rw [beq_eq_false_iff_ne]; intro h; exact c10 ((u8_eq _ 10 (by decide)).1 h)
      by_cases c9 : s[k] = 9
      · have HX : Hid (qbyte s[k] = [92, 116]) := Lib.hid (by rw [c9]; rfl)
        have e9 : ((s[k].toNat : Int) == 9) = true := by rw [c9]; rfl
        clear c34 c92 c10 c9
        go_wp2_with (at_builtin; refine app_bytes w.heap.size rfl (.tmp 49) (.tmp 50) rfl _ (qpre s k) [92, 116] _ 2 rfl rfl rfl rfl HO.out HB.out hbs (by omega) ?_; intro v1 w1 hown hb1)
        go_roundw
        case rel => exact ⟨k + 1, by omega, by go_num, Lib.hid (by rw [HQ.out, HX.out]; exact hown), Lib.hid hb1⟩
        case measure => simp [intOf]; omega
      have n9 : ((s[k].toNat : Int) == 9) = false := by rw [beq_eq_false_iff_ne]; intro h; exact c9 ((u8_eq _ 9 (by decide)).1 h)
      by_cases c13 : s[k] = 13
      · have HX : Hid (qbyte s[k] = [92, 114]) := Lib.hid (by rw [c13]; rfl)
        have e13 : ((s[k].toNat : Int) == 13) = true := by rw [c13]; rfl
        clear c34 c92 c10 c9 c13
        go_wp2_with (at_builtin; refine app_bytes w.heap.size rfl (.tmp 55) (.tmp 56) rfl _ (qpre s k) [92, 114] _ 2 rfl rfl rfl rfl HO.out HB.out hbs (by omega) ?_; intro v1 w1 hown hb1)
        go_roundw
        case rel => exact ⟨k + 1, by omega, by go_num, Lib.hid (by rw [HQ.out, HX.out]; exact hown), Lib.hid hb1⟩
        case measure => simp [intOf]; omega
      have n13 : ((s[k].toNat : Int) == 13) = false := by rw [beq_eq_false_iff_ne]; intro h; exact c13 ((u8_eq _ 13 (by decide)).1 h)
      by_cases cp : 32 ≤ s[k].toNat ∧ s[k].toNat ≤ 126
      · have HX : Hid (qbyte s[k] = [s[k]]) := Lib.hid (by
          unfold qbyte
          have a1 : ¬ (s[k] < 32 ∨ 126 < s[k]) := by
            rw [UInt8.lt_iff_toNat_lt, UInt8.lt_iff_toNat_lt]; simp; omega
          simp [c34, c92, c10, c9, c13, a1])

        have g1 : (32 : Int) ≤ (s[k].toNat : Int) := by omega
        have g2 : (s[k].toNat : Int) ≤ 126 := by omega
        clear cp c34 c92 c10 c9 c13
        go_wp2_with (at_builtin; refine app_bytes w.heap.size rfl (.tmp 65) (.tmp 67) rfl _ (qpre s k) [s[k]] _ 1 rfl rfl rfl rfl HO.out HB.out hbs (by omega) ?_; intro v1 w1 hown hb1)
        go_roundw
        case rel => exact ⟨k + 1, by omega, by go_num, Lib.hid (by rw [HQ.out, HX.out]; exact hown), Lib.hid hb1⟩
        case measure => simp [intOf]; omega
      · have HX : Hid (qbyte s[k] = [92, 120, hexT (s[k] / 16), hexT (s[k] % 16)]) := Lib.hid (by
          unfold qbyte
          have a1 : s[k] < 32 ∨ 126 < s[k] := by
            rw [UInt8.lt_iff_toNat_lt, UInt8.lt_iff_toNat_lt]; simp; omega
          simp [c34, c92, c10, c9, c13, a1])

        have hx8 := s[k].toNat_lt
        clear c34 c92 c10 c9 c13
        have b1 : (0 : Int) ≤ (s[k].toNat : Int) / 16 := by omega
        have b2 : (s[k].toNat : Int) / 16 < 16 := by omega
        have b3 : (0 : Int) ≤ (s[k].toNat : Int) % 16 := by omega
        have b4 : (s[k].toNat : Int) % 16 < 16 := by omega
        have H1 := Lib.hid (hexS_get (s[k] / 16) (by simp; omega) ((s[k].toNat : Int) / 16) (u8_quo _).symm)
        have H2 := Lib.hid (hexS_get (s[k] % 16) (by simp; omega) ((s[k].toNat : Int) % 16) (u8_rem _).symm)
        have hlen : (qpre s k).length + 4 ≤ 140737488355328 := by omega
        by_cases c32 : 32 ≤ s[k].toNat
        · have g1 : (32 : Int) ≤ (s[k].toNat : Int) := by omega
          have g2 : ¬ ((s[k].toNat : Int) ≤ 126) := by omega
          have q1 : IntKind.u8.wrap ((s[k].toNat : Int) / 16) = (s[k].toNat : Int) / 16 := IntWalk.u8_in _ (by omega)
          have q2 : (s[k].toNat : Int).tmod 16 = (s[k].toNat : Int) % 16 := Int.tmod_eq_emod_of_nonneg (by omega)
          clear cp c32
          go_wp2_with fail
          go_region_law (refine app_bytes_step w.heap.size rfl (.tmp 17) (.tmp 26) rfl _ (qpre s k) [92, 120, hexT (s[k] / 16), hexT (s[k] % 16)] _ 4 (by rw [← H1.out, ← H2.out]; rfl) rfl rfl rfl (HO.out.drew) (HB.out.drew) hbs hlen ?_; intro v1 w1 hown hb1)
          all_goals
            go_wp2_with fail
            go_roundw
            case rel => exact ⟨k + 1, by omega, by go_num, Lib.hid (by rw [HQ.out, HX.out]; exact hown), Lib.hid hb1⟩
            case measure => simp [intOf]; omega
        · have g1 : ¬ ((32 : Int) ≤ (s[k].toNat : Int)) := by omega
          have q1 : IntKind.u8.wrap ((s[k].toNat : Int) / 16) = (s[k].toNat : Int) / 16 := IntWalk.u8_in _ (by omega)
          have q2 : (s[k].toNat : Int).tmod 16 = (s[k].toNat : Int) % 16 := Int.tmod_eq_emod_of_nonneg (by omega)
          clear cp c32
          go_wp2_with fail
          go_region_law (refine app_bytes_step w.heap.size rfl (.tmp 17) (.tmp 26) rfl _ (qpre s k) [92, 120, hexT (s[k] / 16), hexT (s[k] % 16)] _ 4 (by rw [← H1.out, ← H2.out]; rfl) rfl rfl rfl (HO.out.drew) (HB.out.drew) hbs hlen ?_; intro v1 w1 hown hb1)
          all_goals
            go_wp2_with fail
            go_roundw
            case rel => exact ⟨k + 1, by omega, by go_num, Lib.hid (by rw [HQ.out, HX.out]; exact hown), Lib.hid hb1⟩
            case measure => simp [intOf]; omega
    · go_wp2_with (at_builtin; refine app_bytes w.heap.size rfl (.tmp 69) (.tmp 70) rfl _ (qpre s k) [34] _ 1 rfl rfl rfl rfl HO.out HB.out hbs (by omega) ?_; intro v1 w1 hown hb1; have hcv := conv_bytes hown)
      go_ret
      obtain rfl : k = s.size := by omega
      refine ⟨?_, hb1⟩
      have : qpre s s.size ++ [34] = quoteT s := by unfold qpre quoteT; rw [List.take_of_length_le (by simp)]; rfl
      rw [this]
      rfl
end Go.Proofs.YteeojceloljcbaaDoor.H
